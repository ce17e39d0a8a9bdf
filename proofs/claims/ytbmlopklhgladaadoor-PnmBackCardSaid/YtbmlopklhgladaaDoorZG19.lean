/-
  Texts of this claim, joined by program (RtA, RtB, RtC, RtD). Plain: what was written of a head is read again; no program in sight.
-/
import Derived.Test.YtbmlopklhgladaaDoorZG11
import Derived.Test.YtbmlopklhgladaaDoorZG6
set_option linter.unusedVariables false
set_option linter.unusedSimpArgs false
namespace Go.Proofs.YtbmlopklhgladaaDoor.Pnm
open Go.RowKit K Ian Ard

/-- m stands at a place -/
def At (l : List Int) (a : Nat) (m : List Int) : Prop := a + m.length ≤ l.length ∧ ∀ i, i < m.length → l.getD (a + i) 0 = m.getD i 0
theorem At.self (l : List Int) : At l 0 l := ⟨by omega, fun i _ => by rw [Nat.zero_add]⟩
theorem getD_app2 {l m : List Int} {i : Nat} : (l ++ m).getD (l.length + i) 0 = m.getD i 0 := by
  simp only [List.getD_eq_getElem?_getD, List.getElem?_append_right (Nat.le_add_right _ _), Nat.add_sub_cancel_left]
theorem At.left {l m m2 : List Int} {a : Nat} (h : At l a (m ++ m2)) : At l a m := by
  obtain ⟨h1, h2⟩ := h
  rw [List.length_append] at h1 h2
  exact ⟨by omega, fun i hi => by rw [h2 i (by omega), getD_app hi]⟩
theorem At.right {l m m2 : List Int} {a : Nat} (h : At l a (m ++ m2)) : At l (a + m.length) m2 := by
  obtain ⟨h1, h2⟩ := h
  rw [List.length_append] at h1 h2
  exact ⟨by omega, fun i hi => by rw [Nat.add_assoc, h2 (m.length + i) (by omega), getD_app2]⟩
theorem At.one {l : List Int} {a : Nat} {v : Int} (h : At l a [v]) : a < l.length ∧ l.getD a 0 = v := by
  obtain ⟨h1, h2⟩ := h
  rw [List.length_singleton] at h1
  exact ⟨by omega, by simpa using h2 0 (by simp)⟩
/-- a number of k digits -/
theorem dec_at : ∀ (n : Nat) (l : List Int) (a : Nat), At l a ((Lib.decDigits n).map fun b => (b.toNat : Int)) → AllD l a (Lib.decDigits n).length ∧ valM l a (Lib.decDigits n).length = n := by
  intro n
  induction n using Nat.strongRecOn with
  | _ n ih =>
    intro l a h
    by_cases hn : n < 10
    · rw [Lib.decDigits_one hn] at h ⊢
      have h1 := At.one (v := ((48 + n : Nat) : Int)) (by
        have e : (UInt8.ofNat (48 + n)).toNat = 48 + n := by rw [UInt8.toNat_ofNat']; omega
        rw [List.map_cons, List.map_nil, e] at h
        exact h)
      refine ⟨⟨by simp; omega, fun i hi => ?_⟩, ?_⟩
      · obtain rfl : i = 0 := by simpa using hi
        rw [Nat.add_zero, h1.2]; unfold digB; simp; omega
      · simp only [List.length_singleton, valM, Nat.add_zero, h1.2]; push_cast; omega
    · have e : Lib.decDigits n = Lib.decDigits (n / 10) ++ [UInt8.ofNat (48 + n % 10)] := by rw [Lib.decDigits, dif_neg hn]
      have e2 : (UInt8.ofNat (48 + n % 10)).toNat = 48 + n % 10 := by rw [UInt8.toNat_ofNat']; omega
      rw [e] at h ⊢
      rw [List.map_append] at h
      obtain ⟨h1, h2⟩ := ih (n / 10) (by omega) l a h.left
      have h3 := h.right
      rw [List.length_map] at h3
      have h4 := At.one (v := ((48 + n % 10 : Nat) : Int)) (by rw [List.map_cons, List.map_nil, e2] at h3; exact h3)
      rw [List.length_append, List.length_singleton]
      refine ⟨h1.snoc h4.1 (by rw [h4.2]; unfold digB; simp; omega), ?_⟩
      rw [valM, h2, h4.2]; push_cast; omega
theorem nDigits_le : ∀ (k u : Nat), u < 10 ^ (k + 1) → Lib.nDigits u ≤ k + 1
  | 0, u, h => by rw [Lib.nDigits_small (by simpa using h)]; omega
  | k + 1, u, h => by
    by_cases hu : u < 10
    · rw [Lib.nDigits_small hu]; omega
    · rw [Lib.nDigits_big hu]
      have := nDigits_le k (u / 10) (by rw [Nat.pow_succ] at h; omega)
      omega
theorem itoaI_le {v : Int} {k : Nat} (h0 : 0 ≤ v) (h1 : v < 10 ^ (k + 1)) : (itoaI v).length ≤ k + 1 := by
  obtain ⟨u, rfl⟩ := Int.eq_ofNat_of_zero_le h0
  unfold itoaI
  rw [List.length_map, Lib.itoa_nonneg, Lib.decDigits_length]
  exact nDigits_le k u (by exact_mod_cast h1)
theorem itoaI_dig {v : Int} (h0 : 0 ≤ v) {l : List Int} {a : Nat} (h : At l a (itoaI v)) : AllD l a (itoaI v).length ∧ valM l a (itoaI v).length = v := by
  obtain ⟨u, rfl⟩ := Int.eq_ofNat_of_zero_le h0
  unfold itoaI at h ⊢
  rw [Lib.itoa_nonneg] at h ⊢
  rw [List.length_map]
  exact dec_at u l a h
theorem num_at {v : Int} (h0 : 0 ≤ v) (h1 : v ≤ 999999999) {l : List Int} {a : Nat} {s : Int} (h : At l a (itoaI v ++ [s])) (hs : ¬ digB s = true) : numM l a = some (v, a + (itoaI v).length) := by
  obtain ⟨h2, h3⟩ := itoaI_dig h0 h.left
  have h4 := itoaI_le (k := 8) h0 (by omega)
  have h5 := itoaI_pos v
  rw [numM_at h2 h4 (.inr (by rw [h.right.one.2]; exact hs)), if_neg (by omega), h3]
theorem itoaI_first {v : Int} (h0 : 0 ≤ v) {l : List Int} {a : Nat} (h : At l a (itoaI v)) : a < l.length ∧ digB (l.getD a 0) = true := by
  have h2 := (itoaI_dig h0 h).1
  have h5 := itoaI_pos v
  exact ⟨by have := h2.1; omega, h2.2 0 h5⟩
theorem digB_ns {c : Int} (h : digB c = true) : ¬ spaceB c = true ∧ ¬ c = 35 := by
  unfold digB at h
  unfold spaceB
  simp only [Bool.and_eq_true, decide_eq_true_eq] at h
  simp
  omega
/-- a gap of one space before a number -/
theorem gap_one {v : Int} (h0 : 0 ≤ v) {l : List Int} {a : Nat} {s : Int} (h : At l a ([s] ++ itoaI v)) (hs : spaceB s = true) : gapM l a = some (a + 1) := by
  have h1 := h.left.one
  have h2 := itoaI_first h0 h.right
  rw [List.length_singleton] at h2
  have h3 := digB_ns h2.2
  rw [gapM_space h1.1 (by rw [h1.2]; exact hs), gapM_stop h2.1 h3.1 h3.2]
theorem behind_at {v : Int} (h0 : 0 ≤ v) (h1 : v ≤ 999999999) {l : List Int} {a : Nat} {s t : Int} (h : At l a ([s] ++ (itoaI v ++ [t]))) (hs : spaceB s = true) (ht : ¬ digB t = true) : behindM l a = some (v, a + 1 + (itoaI v).length) := by
  have h2 : At l a ([s] ++ itoaI v) := by rw [← List.append_assoc] at h; exact h.left
  unfold behindM
  rw [gap_one h0 h2 hs]
  simp only
  rw [if_neg (by omega)]
  exact num_at h0 h1 h.right ht
theorem itoa_one {k : Int} (h0 : 0 ≤ k) (h1 : k ≤ 9) : itoaI k = [48 + k] := by
  obtain ⟨u, rfl⟩ := Int.eq_ofNat_of_zero_le h0
  unfold itoaI
  rw [Lib.itoa_nonneg, Lib.decDigits_one (by omega)]
  have e : (UInt8.ofNat (48 + u)).toNat = 48 + u := by rw [UInt8.toNat_ofNat']; omega
  rw [List.map_cons, List.map_nil, e]
  push_cast
  rfl
def topR (kind top : Int) : Int := if kind = 1 ∨ kind = 4 then 1 else top
theorem head_at {W H kind top : Int} {r : List Int} (w1 : 1 ≤ W) (w2 : W ≤ 4096) (h1 : 1 ≤ H) (h2 : H ≤ 4096) (k1 : 1 ≤ kind) (k2 : kind ≤ 6) (t1 : 1 ≤ top) (t2 : top ≤ 65535) :
    headM (headB W H kind ++ topB kind top ++ r) = some ⟨kind, W, H, topR kind top, (headB W H kind ++ topB kind top).length - 1⟩ := by
  have hl := At.self (headB W H kind ++ topB kind top ++ r)
  have hk := itoa_one (k := kind) (by omega) (by omega)
  obtain ⟨l, hll⟩ : ∃ l, headB W H kind ++ topB kind top ++ r = l := ⟨_, rfl⟩
  rw [hll] at hl ⊢
  have hL : l = [80] ++ ([48 + kind] ++ ([10] ++ (itoaI W ++ ([32] ++ (itoaI H ++ ([10] ++ (topB kind top ++ r))))))) := by
    rw [← hll]; unfold headB; rw [hk]; simp [List.append_assoc]
  have a0 := hl
  rw [show At l 0 l = At l 0 ([80] ++ ([48 + kind] ++ ([10] ++ (itoaI W ++ ([32] ++ (itoaI H ++ ([10] ++ (topB kind top ++ r)))))))) by rw [← hL]] at a0
  have p0 := a0.left.one
  have a1 := a0.right
  have p1 := a1.left.one
  have a2 := a1.right
  simp only [List.length_singleton, Nat.zero_add, Nat.reduceAdd] at p0 p1 a1 a2
  have b1 : behindM l 2 = some (W, 2 + 1 + (itoaI W).length) := by
    refine behind_at (s := 10) (t := 32) (by omega) (by omega) ?_ (by decide) (by decide)
    have e : [10] ++ (itoaI W ++ ([32] ++ (itoaI H ++ ([10] ++ (topB kind top ++ r))))) = ([10] ++ (itoaI W ++ [32])) ++ (itoaI H ++ ([10] ++ (topB kind top ++ r))) := by simp [List.append_assoc]
    rw [e] at a2
    exact a2.left
  have a3 := a2.right.right
  simp only [List.length_singleton] at a3
  have b2 : behindM l (2 + 1 + (itoaI W).length) = some (H, 2 + 1 + (itoaI W).length + 1 + (itoaI H).length) := by
    refine behind_at (s := 32) (t := 10) (by omega) (by omega) ?_ (by decide) (by decide)
    have e : [32] ++ (itoaI H ++ ([10] ++ (topB kind top ++ r))) = ([32] ++ (itoaI H ++ [10])) ++ (topB kind top ++ r) := by simp [List.append_assoc]
    rw [e] at a3
    exact a3.left
  have a4 := a3.right.right
  simp only [List.length_singleton] at a4
  have hlen : (headB W H kind).length = 2 + 1 + (itoaI W).length + 1 + (itoaI H).length + 1 := by unfold headB; rw [hk]; simp; omega
  have hlen2 : ¬ l.length < 2 := by have := a2.1; omega
  unfold headM
  rw [p0.2, p1.2, if_neg (by omega), b1]
  simp only
  rw [if_neg (by omega), b2]
  simp only
  rw [if_neg (by omega)]
  have e48 : 48 + kind - 48 = kind := by omega
  by_cases hk4 : kind = 1 ∨ kind = 4
  · rw [if_pos (by omega), e48]
    unfold topR topB
    rw [if_pos hk4, if_pos hk4, List.append_nil, hlen]
    rfl
  · rw [if_neg (by omega)]
    have b3 : behindM l (2 + 1 + (itoaI W).length + 1 + (itoaI H).length) = some (top, 2 + 1 + (itoaI W).length + 1 + (itoaI H).length + 1 + (itoaI top).length) := by
      refine behind_at (s := 10) (t := 10) (by omega) (by omega) ?_ (by decide) (by decide)
      unfold topB at a4
      rw [if_neg hk4, ← List.append_assoc] at a4
      exact a4.left
    rw [b3]
    simp only
    rw [if_neg (by omega), e48]
    unfold topR topB
    rw [if_neg hk4, if_neg hk4, List.length_append, hlen, List.length_append]
    rfl
end Go.Proofs.YtbmlopklhgladaaDoor.Pnm
set_option linter.unusedVariables false
set_option linter.unusedSimpArgs false
namespace Go.Proofs.YtbmlopklhgladaaDoor.Pnm
open Go.RowKit K Ian Ard

theorem flatG (f : Nat → List Int) (c n : Nat) (hc : ∀ i, i < n → (f i).length = c) : ((List.range n).flatMap f).length = c * n ∧ ∀ i k, i < n → k < c → ((List.range n).flatMap f).getD (c * i + k) 0 = (f i).getD k 0 := by
  induction n with
  | zero => exact ⟨by simp, fun i k hi => by omega⟩
  | succ n ih =>
    obtain ⟨h1, h2⟩ := ih fun i hi => hc i (by omega)
    rw [List.range_succ, List.flatMap_append]
    simp only [List.flatMap_cons, List.flatMap_nil, List.append_nil]
    refine ⟨by rw [List.length_append, h1, hc n (by omega), Nat.mul_succ], fun i k hi hk => ?_⟩
    rcases (by omega : i < n ∨ i = n) with h | rfl
    · have : c * i + k < c * n := by
        have := Nat.mul_le_mul_left c (show i + 1 ≤ n by omega)
        rw [Nat.mul_succ] at this; omega
      rw [getD_app (by omega), h2 i k h hk]
    · rw [← h1, getD_app2]
/-- the samples of the first n pixels -/
def ssN (pix : List Int) (kind top : Int) (n : Nat) : List Int := (List.range n).flatMap fun i => pxS pix kind top (4 * i)
theorem pxS_len {kind : Int} (k1 : 1 ≤ kind) (k2 : kind ≤ 6) (pix : List Int) (top : Int) (q : Nat) : (pxS pix kind top q).length = eachOf kind := by
  unfold pxS smpsI eachOf
  by_cases h1 : kind = 1 ∨ kind = 4
  · rw [if_pos h1, if_neg (show ¬ (kind = 3 ∨ kind = 6) by omega)]; split <;> rfl
  · rw [if_neg h1]
    by_cases h2 : kind = 2 ∨ kind = 5
    · rw [if_pos h2, if_neg (show ¬ (kind = 3 ∨ kind = 6) by omega)]; rfl
    · rw [if_neg h2, if_pos (show kind = 3 ∨ kind = 6 by omega)]; rfl
theorem each_bd (kind : Int) : 1 ≤ eachOf kind ∧ eachOf kind ≤ 3 := by unfold eachOf; split <;> omega
section
variable {pix : List Int} {kind top : Int} {W : Nat}
theorem ssN_at (k1 : 1 ≤ kind) (k2 : kind ≤ 6) (n : Nat) : (ssN pix kind top n).length = eachOf kind * n ∧ ∀ i k, i < n → k < eachOf kind → (ssN pix kind top n).getD (eachOf kind * i + k) 0 = (pxS pix kind top (4 * i)).getD k 0 :=
  flatG _ _ n fun i _ => pxS_len k1 k2 pix top (4 * i)
theorem ssN_add (pix : List Int) (kind top : Int) (W y j : Nat) : ssN pix kind top (y * W + j) = ssN pix kind top (y * W) ++ rowS pix W kind top y j := by
  unfold ssN rowS
  rw [List.range_add, List.flatMap_append, List.flatMap_map]
theorem rowS_lenE (k1 : 1 ≤ kind) (k2 : kind ≤ 6) (y j : Nat) : (rowS pix W kind top y j).length = eachOf kind * j := by
  have h1 := (ssN_at (pix := pix) (top := top) k1 k2 (y * W + j)).1
  have h2 := (ssN_at (pix := pix) (top := top) k1 k2 (y * W)).1
  rw [ssN_add, List.length_append, h2, Nat.mul_add] at h1
  omega
theorem ssN_row (k1 : 1 ≤ kind) (k2 : kind ≤ 6) {y H j : Nat} (hy : y < H) (hj : j < eachOf kind * W) : (ssN pix kind top (H * W)).getD (eachOf kind * W * y + j) 0 = (rowS pix W kind top y W).getD j 0 := by
  obtain ⟨r, hr⟩ : ∃ r, H * W = (y + 1) * W + r := ⟨H * W - (y + 1) * W, by have := Nat.mul_le_mul_right W (show y + 1 ≤ H by omega); omega⟩
  have e1 : ssN pix kind top (H * W) = ssN pix kind top (y * W) ++ rowS pix W kind top y W ++ (List.range r).flatMap fun i => pxS pix kind top (4 * ((y + 1) * W + i)) := by
    rw [hr]
    rw [← ssN_add, show y * W + W = (y + 1) * W by rw [Nat.add_mul, Nat.one_mul]]
    unfold ssN
    rw [List.range_add, List.flatMap_append, List.flatMap_map]
  have l1 := (ssN_at (pix := pix) (top := top) k1 k2 (y * W)).1
  have l2 := rowS_lenE (pix := pix) (top := top) (W := W) k1 k2 y W
  have e2 : eachOf kind * W * y + j = (ssN pix kind top (y * W)).length + j := by rw [l1, Nat.mul_assoc, Nat.mul_comm W y]
  rw [e1, e2, getD_app (by rw [List.length_append]; omega), getD_app2]
/-- samples in digits, a sign ahead of each -/
def tt (sp : Nat → Int) (L : List Int) : Nat → List Int
  | 0 => []
  | k+1 => tt sp L k ++ ([sp k] ++ itoaI (L.getD k 0))
theorem tt_split (sp : Nat → Int) (L : List Int) (hs : ∀ i, sp i = 10 ∨ sp i = 32) : ∀ (n k : Nat) (t : Int), k < n → (t = 10 ∨ t = 32) → ∃ s r, tt sp L n ++ [t] = tt sp L k ++ (([sp k] ++ (itoaI (L.getD k 0) ++ [s])) ++ r) ∧ (s = 10 ∨ s = 32)
  | 0, k, t, h, ht => by omega
  | n+1, k, t, h, ht => by
    rcases (by omega : k < n ∨ k = n) with h1 | rfl
    · obtain ⟨s, r, e, hsr⟩ := tt_split sp L hs n k (sp n) h1 (hs n)
      refine ⟨s, r ++ (itoaI (L.getD n 0) ++ [t]), ?_, hsr⟩
      rw [tt]
      have : tt sp L n ++ ([sp n] ++ itoaI (L.getD n 0)) ++ [t] = (tt sp L n ++ [sp n]) ++ (itoaI (L.getD n 0) ++ [t]) := by simp [List.append_assoc]
      rw [this, e]
      simp [List.append_assoc]
    · exact ⟨t, [], by rw [tt]; simp [List.append_assoc], ht⟩
theorem smp_at {l : List Int} {a : Nat} {v s t : Int} {kind top : Int} {b : Bool} (h : At l a ([s] ++ (itoaI v ++ [t]))) (hs : s = 10 ∨ s = 32) (ht : t = 10 ∨ t = 32) (v0 : 0 ≤ v) (v1 : v ≤ top) (v2 : top ≤ 65535) (h1 : kind = 1 → v ≤ 1) :
    smpM l kind top a b = some (v, a + 1 + (itoaI v).length) := by
  have hg : gapM l a = some (a + 1) := by
    refine gap_one v0 (s := s) ?_ (by rcases hs with rfl | rfl <;> decide)
    rw [← List.append_assoc] at h; exact h.left
  have hr := h.right
  rw [List.length_singleton] at hr
  have hf := itoaI_first v0 hr.left
  unfold smpM
  rw [hg]
  simp only
  rw [if_neg (by omega)]
  by_cases hk : kind = 1
  · rw [if_pos hk]
    have hv := h1 hk
    have e := itoa_one (k := v) v0 (by omega)
    rw [e] at hr ⊢
    rw [hr.left.one.2, if_pos (by omega), show 48 + v - 48 = v by omega]
    rfl
  · rw [if_neg hk, num_at v0 (by omega) hr (by rcases ht with rfl | rfl <;> decide)]
    simp only
    rw [if_neg (by omega)]
theorem take_snoc3 {L : List Int} {k : Nat} (h : k < L.length) : L.take (k + 1) = L.take k ++ [L.getD k 0] := by
  rw [List.take_add_one, List.getElem?_eq_getElem h, List.getD_eq_getElem?_getD, List.getElem?_eq_getElem h]; rfl
theorem plain_at {l L : List Int} {sp : Nat → Int} {a n : Nat} {kind top : Int} (h : At l a (tt sp L n ++ [10])) (hs : ∀ i, sp i = 10 ∨ sp i = 32) (hn : n ≤ L.length) (hL : ∀ i, 0 ≤ L.getD i 0 ∧ L.getD i 0 ≤ top) (t2 : top ≤ 65535) (h1 : kind = 1 → ∀ i, L.getD i 0 ≤ 1) :
    ∀ k, k ≤ n → plainM l kind top a k = some (L.take k, a + (tt sp L k).length) := by
  intro k
  induction k with
  | zero => intro _; rfl
  | succ k ih =>
    intro hk
    obtain ⟨s, r, e, hsr⟩ := tt_split sp L hs n k 10 (by omega) (.inl rfl)
    rw [e] at h
    rw [plainM, ih (by omega)]
    simp only
    rw [smp_at h.right.left (hs k) hsr (hL k).1 (hL k).2 t2 (fun hk => h1 hk k)]
    simp only
    rw [take_snoc3 (by omega), tt, List.length_append, List.length_append, List.length_singleton]
    congr 2
    omega
/-- the rows of digits are such a text -/
def spW (R i : Nat) : Int := if i % R = 0 then 10 else 32
theorem tt_row {R y : Nat} {L S : List Int} (hR : 0 < R) (hS : ∀ j, j < R → L.getD (R * y + j) 0 = S.getD j 0) : ∀ j, j ≤ R → tt (spW R) L (R * y + j) = tt (spW R) L (R * y) ++ (if j = 0 then [] else [10] ++ textL S j) := by
  intro j
  induction j with
  | zero => intro _; simp
  | succ j ih =>
    intro hj
    rw [← Nat.add_assoc, tt, ih (by omega), hS j (by omega), if_neg (show ¬ j + 1 = 0 by omega), textL]
    have hm : (R * y + j) % R = j := by rw [Nat.mul_add_mod]; exact Nat.mod_eq_of_lt (by omega)
    have hsp : spW R (R * y + j) = if j = 0 then 10 else 32 := by unfold spW; rw [hm]
    rw [hsp]
    by_cases h0 : j = 0
    · subst h0; simp [textL]
    · rw [if_neg h0, if_neg h0, if_pos (show 0 < j by omega)]; simp [List.append_assoc]
theorem rows_text (k1 : 1 ≤ kind) (k3 : kind < 4) (hW : 1 ≤ W) (H : Nat) : ∀ y, y ≤ H → [10] ++ rowsB pix W kind top y = tt (spW (eachOf kind * W)) (ssN pix kind top (H * W)) (eachOf kind * W * y) ++ [10] := by
  have hR : 0 < eachOf kind * W := Nat.mul_pos (each_bd kind).1 (by omega)
  intro y
  induction y with
  | zero => intro _; simp [rowsB, tt]
  | succ y ih =>
    intro hy
    have hr := tt_row (L := ssN pix kind top (H * W)) (S := rowS pix W kind top y W) (y := y) hR (fun j hj => ssN_row k1 (by omega) (by omega) hj) (eachOf kind * W) (Nat.le_refl _)
    rw [rowsB_succ, ← List.append_assoc, ih (by omega), Nat.mul_succ, hr, if_neg (by omega)]
    have : rowB pix W kind top y = textL (rowS pix W kind top y W) (eachOf kind * W) ++ [10] := by
      unfold rowB lineI
      rw [if_pos k3, rowS_lenE k1 (by omega)]
    rw [this]
    simp [List.append_assoc]
end
end Go.Proofs.YtbmlopklhgladaaDoor.Pnm
set_option linter.unusedVariables false
set_option linter.unusedSimpArgs false
namespace Go.Proofs.YtbmlopklhgladaaDoor.Pnm
open Go.RowKit K Ian Ard

theorem bit01 {x : Int} (h : 0 ≤ x ∧ x ≤ 1) : x = 0 ∨ x = 1 := by omega
theorem pkTo_bit {l : List Int} (hl : ∀ i, 0 ≤ l.getD i 0 ∧ l.getD i 0 ≤ 1) (b : Nat) {m : Nat} (hm : m < 8) : pkTo l b 8 / 2 ^ (7 - m) % 2 = l.getD (8 * b + m) 0 := by
  have h0 := hl (8 * b + 0); have h1 := hl (8 * b + 1); have h2 := hl (8 * b + 2); have h3 := hl (8 * b + 3)
  have h4 := hl (8 * b + 4); have h5 := hl (8 * b + 5); have h6 := hl (8 * b + 6); have h7 := hl (8 * b + 7)
  have hcase : m = 0 ∨ m = 1 ∨ m = 2 ∨ m = 3 ∨ m = 4 ∨ m = 5 ∨ m = 6 ∨ m = 7 := by omega
  simp only [pkTo]
  clear hl
  rcases hcase with rfl | rfl | rfl | rfl | rfl | rfl | rfl | rfl <;> (
  generalize l.getD (8 * b + 0) 0 = x0 at *
  generalize l.getD (8 * b + 1) 0 = x1 at *
  generalize l.getD (8 * b + 2) 0 = x2 at *
  generalize l.getD (8 * b + 3) 0 = x3 at *
  generalize l.getD (8 * b + 4) 0 = x4 at *
  generalize l.getD (8 * b + 5) 0 = x5 at *
  generalize l.getD (8 * b + 6) 0 = x6 at *
  generalize l.getD (8 * b + 7) 0 = x7 at *
  simp only [Nat.reduceSub, Nat.sub_zero, Nat.sub_self, Int.reducePow, Int.pow_zero]
  omega)
section
variable {pix : List Int} {kind top : Int} {W : Nat}
theorem bits_at {l : List Int} {K H : Nat} (hk : kind = 4) (hW : 1 ≤ W) (h : At l K (rowsB pix W kind top H)) (hS : ∀ y i, 0 ≤ (rowS pix W kind top y W).getD i 0 ∧ (rowS pix W kind top y W).getD i 0 ≤ 1) :
    (rowsB pix W kind top H).length = (W + 7) / 8 * H ∧ (List.range (H * W)).map (bitI l K W ((W + 7) / 8)) = ssN pix kind top (H * W) := by
  have he : eachOf kind = 1 := by unfold eachOf; rw [if_neg (by omega)]
  have hrow : ∀ y, rowB pix W kind top y = packL (rowS pix W kind top y W) ((W + 7) / 8) := fun y => by
    unfold rowB lineI
    rw [if_neg (by omega), if_pos hk, rowS_lenE (by omega) (by omega), he, Nat.one_mul]
  obtain ⟨f1, f2⟩ := flatG (rowB pix W kind top) ((W + 7) / 8) H fun y _ => by rw [hrow, packL_len]
  refine ⟨f1, ?_⟩
  have hlen := (ssN_at (pix := pix) (top := top) (kind := kind) (by omega) (by omega) (H * W)).1
  rw [he, Nat.one_mul] at hlen
  refine List.ext_getElem (by simp [hlen]) fun i hi1 hi2 => ?_
  rw [List.getElem_map, List.getElem_range]
  have hi : i < H * W := by simpa using hi1
  have hy : i / W < H := Nat.div_lt_of_lt_mul (by rw [Nat.mul_comm]; exact hi)
  have hx : i % W < W := Nat.mod_lt _ (by omega)
  have hb : i % W / 8 < (W + 7) / 8 := by omega
  have e1 : l.getD (K + i / W * ((W + 7) / 8) + i % W / 8) 0 = pkTo (rowS pix W kind top (i / W) W) (i % W / 8) 8 := by
    have h3 := f2 (i / W) (i % W / 8) hy hb
    have h4 : (W + 7) / 8 * (i / W) + i % W / 8 < (rowsB pix W kind top H).length := by
      rw [show (rowsB pix W kind top H).length = (W + 7) / 8 * H from f1]
      have := Nat.mul_le_mul_left ((W + 7) / 8) (show i / W + 1 ≤ H by omega)
      rw [Nat.mul_succ] at this; omega
    have h5 := h.2 _ h4
    rw [Nat.mul_comm (i / W), Nat.add_assoc, h5]
    rw [show (rowsB pix W kind top H).getD ((W + 7) / 8 * (i / W) + i % W / 8) 0 = (rowB pix W kind top (i / W)).getD (i % W / 8) 0 from h3, hrow]
    unfold packL
    rw [List.getD_eq_getElem?_getD, List.getElem?_map, List.getElem?_range hb]
    rfl
  unfold bitI
  rw [e1, pkTo_bit (hS _) _ (Nat.mod_lt _ (by omega)), Nat.div_add_mod]
  have h6 := ssN_row (pix := pix) (top := top) (kind := kind) (W := W) (by omega) (by omega) hy (j := i % W) (by rw [he]; omega)
  rw [he, Nat.one_mul, Nat.div_add_mod] at h6
  rw [← h6, List.getD_eq_getElem?_getD, List.getElem?_eq_getElem (by omega)]
  rfl
/-- bytes for a sample -/
def szT (top : Int) : Nat := if 255 < top then 2 else 1
theorem valsL_at (L : List Int) (top : Int) : ∀ n, (valsL L top n).length = szT top * n ∧ ∀ i, i < n → (szT top = 1 → (valsL L top n).getD i 0 = L.getD i 0 % 256) ∧ (szT top = 2 → (valsL L top n).getD (2 * i) 0 = L.getD i 0 / 256 ∧ (valsL L top n).getD (2 * i + 1) 0 = L.getD i 0 % 256)
  | 0 => ⟨by simp [valsL], fun i hi => by omega⟩
  | n+1 => by
    obtain ⟨h1, h2⟩ := valsL_at L top n
    by_cases ht : 255 < top
    · have hz : szT top = 2 := by unfold szT; rw [if_pos ht]
      rw [hz] at h1 ⊢
      rw [valsL, if_pos ht]
      refine ⟨by simp; omega, fun i hi => ⟨fun h => by omega, fun _ => ?_⟩⟩
      rw [List.append_assoc]
      rcases (by omega : i < n ∨ i = n) with h | rfl
      · obtain ⟨a, b⟩ := (h2 i h).2 hz
        exact ⟨by rw [getD_app (by omega), a], by rw [getD_app (by omega), b]⟩
      · have e0 : 2 * i = (valsL L top i).length + 0 := by omega
        have e1 : 2 * i + 1 = (valsL L top i).length + 1 := by omega
        exact ⟨by rw [e0, getD_app2]; rfl, by rw [e1, getD_app2]; rfl⟩
    · have hz : szT top = 1 := by unfold szT; rw [if_neg ht]
      rw [hz] at h1 ⊢
      rw [valsL, if_neg ht, List.append_nil]
      refine ⟨by simp; omega, fun i hi => ⟨fun _ => ?_, fun h => by omega⟩⟩
      rcases (by omega : i < n ∨ i = n) with h | rfl
      · rw [getD_app (by omega), (h2 i h).1 hz]
      · have e0 : i = (valsL L top i).length + 0 := by omega
        have := getD_app2 (l := valsL L top i) (m := [L.getD i 0 % 256]) (i := 0)
        rw [← e0] at this
        rw [this]; rfl
theorem rawV_at {l L : List Int} {K s : Nat} {top : Int} (hv : ∀ i, i < L.length → valI l K s i = L.getD i 0) (hL : ∀ i, L.getD i 0 ≤ top) : ∀ k, k ≤ L.length → rawV l K s top k = some (L.take k)
  | 0, _ => rfl
  | k+1, h => by
    rw [rawV, rawV_at hv hL k (by omega)]
    simp only
    rw [hv k (by omega), if_neg (by have := hL k; omega), take_snoc3 (by omega)]
theorem rows_vals (k4 : 4 < kind) (k2 : kind ≤ 6) (hW : 1 ≤ W) (H : Nat) : ∀ y, y ≤ H → rowsB pix W kind top y = valsL (ssN pix kind top (H * W)) top (eachOf kind * W * y) := by
  intro y
  induction y with
  | zero => intro _; simp [rowsB, valsL]
  | succ y ih =>
    intro hy
    have hr : ∀ j, j ≤ eachOf kind * W → valsL (ssN pix kind top (H * W)) top (eachOf kind * W * y + j) = valsL (ssN pix kind top (H * W)) top (eachOf kind * W * y) ++ valsL (rowS pix W kind top y W) top j := by
      intro j
      induction j with
      | zero => intro _; simp [valsL]
      | succ j ihj =>
        intro hj
        rw [← Nat.add_assoc, valsL, ihj (by omega), ssN_row (by omega) k2 (by omega) (by omega), valsL]
        simp [List.append_assoc]
    rw [rowsB_succ, ih (by omega), Nat.mul_succ, hr _ (Nat.le_refl _)]
    unfold rowB lineI
    rw [if_neg (by omega), if_neg (by omega), rowS_lenE (by omega) k2]
end
end Go.Proofs.YtbmlopklhgladaaDoor.Pnm
set_option linter.unusedVariables false
set_option linter.unusedSimpArgs false
namespace Go.Proofs.YtbmlopklhgladaaDoor.Pnm
open Go.RowKit K Ian Ard

theorem smpsI_top {kind top r g b : Int} (hr : 0 ≤ r ∧ r < 65536) (hg : 0 ≤ g ∧ g < 65536) (hb : 0 ≤ b ∧ b < 65536) (t1 : 1 ≤ top) (t2 : top ≤ 65535) : ∀ v ∈ smpsI kind top r g b, 0 ≤ v ∧ v ≤ topR kind top := by
  have hl := lumaI_bd hr hg hb
  have d0 := downI_bd hl t1 t2
  have d1 := downI_bd hr t1 t2
  have d2 := downI_bd hg t1 t2
  have d3 := downI_bd hb t1 t2
  intro v hv
  unfold smpsI at hv
  unfold topR
  by_cases h1 : kind = 1 ∨ kind = 4
  · rw [if_pos h1] at hv ⊢
    split at hv <;> simp at hv <;> omega
  · rw [if_neg h1] at hv ⊢
    split at hv
    · simp at hv; omega
    · simp at hv; omega
theorem getD_mem {L : List Int} {P : Int → Prop} (h0 : P 0) (h : ∀ v ∈ L, P v) (i : Nat) : P (L.getD i 0) := by
  rw [List.getD_eq_getElem?_getD]
  cases e : L[i]? with
  | none => exact h0
  | some x => exact h x (List.mem_of_getElem? e)
theorem topR_bd {kind top : Int} (t1 : 1 ≤ top) (t2 : top ≤ 65535) : 1 ≤ topR kind top ∧ topR kind top ≤ 65535 := by unfold topR; split <;> omega
section
variable {pix : List Int} {kind top : Int} {W : Nat}
theorem ssN_bd (hwf : ∀ x ∈ pix, 0 ≤ x ∧ x < 65536) (t1 : 1 ≤ top) (t2 : top ≤ 65535) (n i : Nat) : 0 ≤ (ssN pix kind top n).getD i 0 ∧ (ssN pix kind top n).getD i 0 ≤ topR kind top := by
  refine getD_mem (P := fun v => 0 ≤ v ∧ v ≤ topR kind top) ⟨by omega, by have := topR_bd (kind := kind) t1 t2; omega⟩ (fun v hv => ?_) i
  unfold ssN at hv
  obtain ⟨x, -, hx⟩ := List.mem_flatMap.1 hv
  exact smpsI_top (pix_bd hwf _) (pix_bd hwf _) (pix_bd hwf _) t1 t2 v hx
theorem rowS_bdR (hwf : ∀ x ∈ pix, 0 ≤ x ∧ x < 65536) (t1 : 1 ≤ top) (t2 : top ≤ 65535) (y n i : Nat) : 0 ≤ (rowS pix W kind top y n).getD i 0 ∧ (rowS pix W kind top y n).getD i 0 ≤ topR kind top := by
  refine getD_mem (P := fun v => 0 ≤ v ∧ v ≤ topR kind top) ⟨by omega, by have := topR_bd (kind := kind) t1 t2; omega⟩ (fun v hv => ?_) i
  unfold rowS at hv
  obtain ⟨x, -, hx⟩ := List.mem_flatMap.1 hv
  exact smpsI_top (pix_bd hwf _) (pix_bd hwf _) (pix_bd hwf _) t1 t2 v hx
theorem textL_le {l : List Int} (hl : ∀ i, 0 ≤ l.getD i 0 ∧ l.getD i 0 ≤ 65535) : ∀ n, (textL l n).length ≤ 6 * n
  | 0 => by simp [textL]
  | n+1 => by
    rw [textL, List.length_append, List.length_append]
    have h1 := textL_le hl n
    have h2 := itoaI_le (k := 4) (hl n).1 (by have := (hl n).2; omega)
    split <;> simp only [List.length_singleton, List.length_nil] <;> omega
theorem rowsB_le (hwf : ∀ x ∈ pix, 0 ≤ x ∧ x < 65536) (k1 : 1 ≤ kind) (k2 : kind ≤ 6) (t1 : 1 ≤ top) (t2 : top ≤ 65535) (hW : 1 ≤ W) : ∀ H, (rowsB pix W kind top H).length ≤ 19 * (H * W) := by
  intro H
  induction H with
  | zero => simp [rowsB]
  | succ H ih =>
    have hr := fun i => rowS_bdR (kind := kind) (W := W) hwf t1 t2 H W i
    have ht := topR_bd (kind := kind) t1 t2
    have hl := rowS_lenE (pix := pix) (kind := kind) (top := top) (W := W) k1 k2 H W
    have he := each_bd kind
    have hm : eachOf kind * W ≤ 3 * W := Nat.mul_le_mul_right W he.2
    have : (rowB pix W kind top H).length ≤ 19 * W := by
      unfold rowB lineI
      rw [hl]
      split
      · rw [List.length_append, List.length_singleton]
        have := textL_le (l := rowS pix W kind top H W) (fun i => ⟨(hr i).1, by have := (hr i).2; omega⟩) (eachOf kind * W)
        omega
      · split
        · rw [packL_len]; omega
        · have := valsL_len (rowS pix W kind top H W) top (eachOf kind * W); omega
    rw [rowsB_succ, List.length_append, Nat.add_mul, Nat.one_mul]
    omega
theorem smps_at {tl : List Int} {H : Nat} (hwf : ∀ x ∈ pix, 0 ≤ x ∧ x < 65536) (k1 : 1 ≤ kind) (k2 : kind ≤ 6) (t1 : 1 ≤ top) (t2 : top ≤ 65535) (hW : 1 ≤ W) (hH : 1 ≤ H) (htl : tl = [] ∨ 4 ≤ kind) {hd l : List Int} {K : Nat} (hl : l = hd ++ (([10] ++ rowsB pix W kind top H) ++ tl)) (hK : K = hd.length) :
    smpsM l ⟨kind, (W : Int), (H : Int), topR kind top, K⟩ (eachOf kind * (W * H)) = some (ssN pix kind top (H * W)) := by
  have ha : At l K (([10] ++ rowsB pix W kind top H) ++ tl) := by
    have := (At.self l)
    rw [show At l 0 l = At l 0 (hd ++ (([10] ++ rowsB pix W kind top H) ++ tl)) by rw [← hl]] at this
    have := this.right
    rwa [Nat.zero_add, ← hK] at this
  have hlen := (ssN_at (pix := pix) (top := top) k1 k2 (H * W)).1
  have hbd := fun i => ssN_bd (kind := kind) hwf t1 t2 (H * W) i
  have htr := topR_bd (kind := kind) t1 t2
  have hcm : W * H = H * W := Nat.mul_comm _ _
  unfold smpsM
  simp only
  by_cases hk : kind < 4
  · rw [if_pos hk]
    have h1 := ha.left
    have hm : eachOf kind * W * H = eachOf kind * (H * W) := by rw [Nat.mul_assoc, hcm]
    rw [rows_text k1 hk hW H H (Nat.le_refl _), hm] at h1
    rw [plain_at h1 (fun i => by unfold spW; split <;> simp) (by omega) (fun i => hbd i) (by omega) (fun hk1 i => by have := (hbd i).2; unfold topR at this; rw [if_pos (.inl hk1)] at this; exact this) _ (by rw [hcm]; exact Nat.le_refl _)]
    rw [hcm, ← hlen, List.take_length]
    rfl
  · rw [if_neg hk]
    have h1 := ha.left
    have h2 := h1.left.one
    have h3 := h1.right
    rw [List.length_singleton] at h3
    have h4 := h3.1
    unfold rawM
    simp only [Int.toNat_natCast]
    rw [if_neg (by rw [h2.2]; simp [spaceB]; omega)]
    by_cases hk4 : kind = 4
    · have ht : topR kind top = 1 := by unfold topR; rw [if_pos (.inr hk4)]
      obtain ⟨b1, b2⟩ := bits_at hk4 hW h3 (fun y i => by have := rowS_bdR (kind := kind) (W := W) hwf t1 t2 y W i; rw [ht] at this; exact this)
      have he : eachOf kind = 1 := by unfold eachOf; rw [if_neg (by omega)]
      rw [if_pos hk4, if_neg (by omega), he, Nat.one_mul, hcm, b2]
    · have ht : topR kind top = top := by unfold topR; rw [if_neg (by omega)]
      rw [ht] at hbd ⊢
      have hv := rows_vals (pix := pix) (top := top) (W := W) (kind := kind) (by omega) k2 hW H H (Nat.le_refl _)
      have hm : eachOf kind * W * H = eachOf kind * (H * W) := by rw [Nat.mul_assoc, hcm]
      rw [hm, ← hlen] at hv
      obtain ⟨v1, v2⟩ := valsL_at (ssN pix kind top (H * W)) top (ssN pix kind top (H * W)).length
      rw [if_neg hk4]
      rw [if_neg (by
        show ¬ (l.length - (K + 1) < szT top * (eachOf kind * (W * H)))
        rw [hcm, ← hlen, ← v1, ← hv]; omega)]
      have := rawV_at (l := l) (L := ssN pix kind top (H * W)) (K := K + 1) (s := szT top) (top := top) (fun i hi => by
        have hd0 := hbd i
        unfold valI
        rcases (by unfold szT; split <;> omega : szT top = 2 ∨ szT top = 1) with hz | hz
        · obtain ⟨c1, c2⟩ := (v2 i hi).2 hz
          rw [hz] at v1
          rw [if_pos hz, h3.2 (2 * i) (by rw [hv, v1]; omega), Nat.add_assoc (K + 1), h3.2 (2 * i + 1) (by rw [hv, v1]; omega), hv, c1, c2]
          omega
        · have c1 := (v2 i hi).1 hz
          rw [hz] at v1
          have : top ≤ 255 := by unfold szT at hz; split at hz <;> omega
          rw [if_neg (by omega), h3.2 i (by rw [hv, v1]; omega), hv, c1]
          omega) (fun i => (hbd i).2) _ (Nat.le_refl _)
      rw [List.take_length] at this
      rw [hcm, ← hlen]
      exact this
theorem dec_enc {tl : List Int} {H : Nat} {most : Int} (hwf : ∀ x ∈ pix, 0 ≤ x ∧ x < 65536) (k1 : 1 ≤ kind) (k2 : kind ≤ 6) (t1 : 1 ≤ top) (t2 : top ≤ 65535) (hW : 1 ≤ W) (hW2 : W ≤ 4096) (hH : 1 ≤ H) (hH2 : H ≤ 4096) (hWH : W * H ≤ 65536) (htl : tl = [] ∨ 4 ≤ kind) (htl2 : tl.length ≤ 1000) :
    decM (headB (W : Int) (H : Int) kind ++ topB kind top ++ rowsB pix W kind top H ++ tl) most = if greatB (W : Int) (H : Int) most = true then ⟨11, 0, 0, []⟩ else ⟨0, W, H, pixM (ssN pix kind top (H * W)) kind (topR kind top) (eachOf kind) (W * H)⟩ := by
  have hh := head_at (W := (W : Int)) (H := (H : Int)) (r := rowsB pix W kind top H ++ tl) (by omega) (by omega) (by omega) (by omega) k1 k2 t1 t2
  rw [← List.append_assoc] at hh
  have hl1 : (headB (W : Int) (H : Int) kind ++ topB kind top).length ≤ 30 := by
    have i1 := itoaI_le (k := 4) (v := (W : Int)) (by omega) (by omega)
    have i2 := itoaI_le (k := 4) (v := (H : Int)) (by omega) (by omega)
    have i3 := itoaI_le (k := 4) (v := top) (by omega) (by omega)
    have i4 := itoa_one (k := kind) (by omega) (by omega)
    unfold headB topB
    rw [i4]
    split <;> simp <;> omega
  have hl2 := rowsB_le (pix := pix) (kind := kind) (top := top) (W := W) hwf k1 k2 t1 t2 hW H
  have hcm : W * H = H * W := Nat.mul_comm _ _
  obtain ⟨hd, hhd⟩ : ∃ hd, headB (W : Int) (H : Int) kind ++ topB kind top = hd ++ [10] := by
    unfold headB topB
    split
    · exact ⟨[80] ++ itoaI kind ++ [10] ++ itoaI W ++ [32] ++ itoaI H, by simp [List.append_assoc]⟩
    · exact ⟨[80] ++ itoaI kind ++ [10] ++ itoaI W ++ [32] ++ itoaI H ++ [10] ++ itoaI top, by simp [List.append_assoc]⟩
  have hsm := smps_at (tl := tl) hwf k1 k2 t1 t2 hW hH htl (hd := hd) (l := headB (W : Int) (H : Int) kind ++ topB kind top ++ rowsB pix W kind top H ++ tl) (K := (headB (W : Int) (H : Int) kind ++ topB kind top).length - 1) (by rw [hhd]; simp [List.append_assoc]) (by rw [hhd]; simp)
  unfold decM
  rw [if_neg (by rw [List.length_append, List.length_append]; omega), hh]
  simp only [Int.toNat_natCast]
  rw [hsm]
end
theorem itoaI_u8 (v : Int) : ∀ x ∈ itoaI v, 0 ≤ x ∧ x < 256 := by
  intro x hx
  unfold itoaI at hx
  obtain ⟨b, -, rfl⟩ := List.mem_map.1 hx
  have := b.toNat_lt
  omega
theorem all_app {P : Int → Prop} {l m : List Int} (h1 : ∀ x ∈ l, P x) (h2 : ∀ x ∈ m, P x) : ∀ x ∈ l ++ m, P x := fun x hx => (List.mem_append.1 hx).elim (h1 x) (h2 x)
theorem all_one {P : Int → Prop} {v : Int} (h : P v) : ∀ x ∈ [v], P x := fun x hx => by rw [List.mem_singleton.1 hx]; exact h
theorem all_nil {P : Int → Prop} : ∀ x ∈ ([] : List Int), P x := fun x hx => by cases hx
theorem textL_u8 (l : List Int) : ∀ n, ∀ x ∈ textL l n, 0 ≤ x ∧ x < 256
  | 0 => all_nil
  | n+1 => by
    rw [textL]
    refine all_app (all_app (textL_u8 l n) ?_) (itoaI_u8 _)
    split
    · exact all_one (by omega)
    · exact all_nil
theorem valsL_u8 {l : List Int} (hl : ∀ i, 0 ≤ l.getD i 0 ∧ l.getD i 0 ≤ 65535) (top : Int) : ∀ n, ∀ x ∈ valsL l top n, 0 ≤ x ∧ x < 256
  | 0 => all_nil
  | n+1 => by
    rw [valsL]
    have := hl n
    refine all_app (all_app (valsL_u8 hl top n) ?_) (all_one (by omega))
    split
    · exact all_one (by omega)
    · exact all_nil
theorem enc_u8 {pix : List Int} {kind top : Int} {W : Nat} {v1 v2 : Int} (hwf : ∀ x ∈ pix, 0 ≤ x ∧ x < 65536) (t1 : 1 ≤ top) (t2 : top ≤ 65535) (H : Nat) : ∀ x ∈ headB v1 v2 kind ++ topB kind top ++ rowsB pix W kind top H, 0 ≤ x ∧ x < 256 := by
  refine all_app (all_app ?_ ?_) ?_
  · unfold headB
    exact all_app (all_app (all_app (all_app (all_app (all_app (all_one (by omega)) (itoaI_u8 _)) (all_one (by omega))) (itoaI_u8 _)) (all_one (by omega))) (itoaI_u8 _)) (all_one (by omega))
  · unfold topB
    split
    · exact all_nil
    · exact all_app (itoaI_u8 _) (all_one (by omega))
  · intro x h0
    unfold rowsB at h0
    obtain ⟨y, -, hx⟩ := List.mem_flatMap.1 h0
    clear h0
    revert x
    have hb := rowS_bd hwf (kind := kind) t1 t2 W y W
    have hd := getD_all hb
    unfold rowB lineI
    split
    · exact all_app (textL_u8 _ _) (all_one (by omega))
    · split
      · rename_i h4
        intro x hx
        unfold packL at hx
        obtain ⟨b, -, rfl⟩ := List.mem_map.1 hx
        have := pkTo_bd (l := rowS pix W kind top y W) (fun v hv => ⟨(hb v hv).1, rowS_one h4 W y W v hv⟩) b 8 (Nat.le_refl _)
        exact ⟨this.1, this.2.1⟩
      · exact valsL_u8 hd top _
end Go.Proofs.YtbmlopklhgladaaDoor.Pnm
