/-
  Texts of this claim, joined by program (EncM, EncN, Mrk, EncG). Plain: what is written of an image; no program in sight.
-/
import Derived.Test.YtbmlopklhgladaaDoorZG10
import Derived.Test.YtbmlopklhgladaaDoorZG5
import Derived.Test.YtbmlopklhgladaaDoorZG1
import Derived.Lib.FrozenHead2
import Derived.Lib.ConvBytes
import Derived.Lib.AtoiErrMem
import Derived.Deep.DeepCutAuto
import Derived.Deep.CutBlock
import Derived.StillTailTactics
set_option linter.unusedVariables false
set_option linter.unusedSimpArgs false
namespace Go.Proofs.YtbmlopklhgladaaDoor.Pnm
open Go.RowKit K Ian Ard

def pxS (pix : List Int) (kind top : Int) (q : Nat) : List Int := smpsI kind top (pix.getD q 0) (pix.getD (q + 1) 0) (pix.getD (q + 2) 0)
/-- the samples of a row's first n pixels -/
def rowS (pix : List Int) (W : Nat) (kind top : Int) (y n : Nat) : List Int := (List.range n).flatMap fun x => pxS pix kind top (4 * (y * W + x))
theorem rowS_succ (pix : List Int) (W : Nat) (kind top : Int) (y n : Nat) : rowS pix W kind top y (n + 1) = rowS pix W kind top y n ++ pxS pix kind top (4 * (y * W + n)) := by
  unfold rowS; rw [List.range_succ, List.flatMap_append]; simp
theorem smpsI_bd {kind top r g b : Int} (hr : 0 ≤ r ∧ r < 65536) (hg : 0 ≤ g ∧ g < 65536) (hb : 0 ≤ b ∧ b < 65536) (t1 : 1 ≤ top) (t2 : top ≤ 65535) : ∀ v ∈ smpsI kind top r g b, 0 ≤ v ∧ v ≤ 65535 := by
  have hl := lumaI_bd hr hg hb
  have d0 := downI_bd hl t1 t2
  have d1 := downI_bd hr t1 t2
  have d2 := downI_bd hg t1 t2
  have d3 := downI_bd hb t1 t2
  intro v hv
  unfold smpsI at hv
  split at hv
  · split at hv <;> simp at hv <;> omega
  · split at hv
    · simp at hv; omega
    · simp at hv; omega
theorem smpsI_one {kind top r g b : Int} (h : kind = 4) : ∀ v ∈ smpsI kind top r g b, v ≤ 1 := by
  intro v hv
  unfold smpsI at hv
  rw [if_pos (by omega)] at hv
  split at hv <;> simp at hv <;> omega
theorem smpsI_len (kind top r g b : Int) : 1 ≤ (smpsI kind top r g b).length ∧ (smpsI kind top r g b).length ≤ 3 := by
  unfold smpsI
  split
  · split <;> simp
  · split <;> simp
theorem pix_bd {pix : List Int} (h : ∀ x ∈ pix, 0 ≤ x ∧ x < 65536) (q : Nat) : 0 ≤ pix.getD q 0 ∧ pix.getD q 0 < 65536 := by
  rw [List.getD_eq_getElem?_getD]
  cases e : pix[q]? with
  | none => simp
  | some x => exact h x (List.mem_of_getElem? e)
theorem rowS_bd {pix : List Int} (h : ∀ x ∈ pix, 0 ≤ x ∧ x < 65536) {kind top : Int} (t1 : 1 ≤ top) (t2 : top ≤ 65535) (W y n : Nat) : ∀ v ∈ rowS pix W kind top y n, 0 ≤ v ∧ v ≤ 65535 := by
  intro v hv
  unfold rowS at hv
  obtain ⟨x, -, hx⟩ := List.mem_flatMap.1 hv
  exact smpsI_bd (pix_bd h _) (pix_bd h _) (pix_bd h _) t1 t2 v hx
theorem rowS_one {pix : List Int} {kind top : Int} (h : kind = 4) (W y n : Nat) : ∀ v ∈ rowS pix W kind top y n, v ≤ 1 := by
  intro v hv
  unfold rowS at hv
  obtain ⟨x, -, hx⟩ := List.mem_flatMap.1 hv
  exact smpsI_one h v hx
theorem rowS_len (pix : List Int) (W : Nat) (kind top : Int) (y n : Nat) : n ≤ (rowS pix W kind top y n).length ∧ (rowS pix W kind top y n).length ≤ 3 * n := by
  induction n with
  | zero => simp [rowS]
  | succ n ih =>
    rw [rowS_succ, List.length_append]
    have := smpsI_len kind top (pix.getD (4 * (y * W + n)) 0) (pix.getD (4 * (y * W + n) + 1) 0) (pix.getD (4 * (y * W + n) + 2) 0)
    unfold pxS
    omega
def rowB (pix : List Int) (W : Nat) (kind top : Int) (y : Nat) : List Int := lineI (rowS pix W kind top y W) kind top (rowS pix W kind top y W).length
def rowsB (pix : List Int) (W : Nat) (kind top : Int) (n : Nat) : List Int := (List.range n).flatMap (rowB pix W kind top)
theorem rowsB_succ (pix : List Int) (W : Nat) (kind top : Int) (n : Nat) : rowsB pix W kind top (n + 1) = rowsB pix W kind top n ++ rowB pix W kind top n := by
  unfold rowsB; rw [List.range_succ, List.flatMap_append]; simp
theorem lineI_len {l : List Int} (hl : ∀ x ∈ l, 0 ≤ x ∧ x ≤ 65535) (kind top : Int) (n : Nat) : (lineI l kind top n).length ≤ 22 * n + 1 := by
  unfold lineI
  split
  · rw [List.length_append]; have := textL_len hl n; simp; omega
  · split
    · rw [packL_len]; omega
    · have := valsL_len l top n; omega
theorem rowB_len {pix : List Int} (h : ∀ x ∈ pix, 0 ≤ x ∧ x < 65536) {kind top : Int} (t1 : 1 ≤ top) (t2 : top ≤ 65535) (W y : Nat) : (rowB pix W kind top y).length ≤ 66 * W + 1 := by
  have h1 := lineI_len (rowS_bd h (kind := kind) t1 t2 W y W) kind top (rowS pix W kind top y W).length
  have h2 := (rowS_len pix W kind top y W).2
  unfold rowB; omega
theorem rowsB_len {pix : List Int} (h : ∀ x ∈ pix, 0 ≤ x ∧ x < 65536) {kind top : Int} (t1 : 1 ≤ top) (t2 : top ≤ 65535) (W n : Nat) : (rowsB pix W kind top n).length ≤ n * (66 * W + 1) := by
  induction n with
  | zero => simp [rowsB]
  | succ n ih =>
    rw [rowsB_succ, List.length_append, Nat.add_mul, Nat.one_mul]
    have := rowB_len h (kind := kind) t1 t2 W n
    omega
def topB (kind top : Int) : List Int := if kind = 1 ∨ kind = 4 then [] else itoaI top ++ [10]
def headB (W H kind : Int) : List Int := [80] ++ itoaI kind ++ [10] ++ itoaI W ++ [32] ++ itoaI H ++ [10]
structure Enc where
  err : Int
  bytes : List Int
def encM (W H : Int) (pn : Nat) (pix : List Int) (kind top : Int) : Enc :=
  if ¬ GoodP W H pn then ⟨6, []⟩
  else if kind < 1 ∨ 6 < kind ∨ top < 1 ∨ 65535 < top then ⟨2, []⟩
  else ⟨0, headB W H kind ++ topB kind top ++ rowsB pix W.toNat kind top H.toNat⟩
end Go.Proofs.YtbmlopklhgladaaDoor.Pnm
set_option linter.unusedVariables false
set_option linter.unusedSimpArgs false
namespace Go.Proofs.YtbmlopklhgladaaDoor.Pnm
open Go.RowKit K Ian Ard

/-- the bytes of the samples that have come -/
def preI (l : List Int) (kind top : Int) : List Int := if kind < 4 then textL l l.length else if kind = 4 then packL l ((l.length + 7) / 8) else valsL l top l.length
theorem lineI_pre (l : List Int) (kind top : Int) : lineI l kind top l.length = preI l kind top ++ (if kind < 4 then [10] else []) := by
  unfold lineI preI
  split
  · rfl
  · split <;> simp
theorem getD_app {l m : List Int} {i : Nat} (h : i < l.length) : (l ++ m).getD i 0 = l.getD i 0 := by
  simp only [List.getD_eq_getElem?_getD, List.getElem?_append_left h]
theorem getD_app_at (l : List Int) (v : Int) : (l ++ [v]).getD l.length 0 = v := by
  simp [List.getD_eq_getElem?_getD]
theorem textL_app (l m : List Int) : ∀ n, n ≤ l.length → textL (l ++ m) n = textL l n
  | 0, _ => rfl
  | n+1, h => by rw [textL, textL, textL_app l m n (by omega), getD_app (by omega)]
theorem textL_snoc (l : List Int) (v : Int) : textL (l ++ [v]) (l ++ [v]).length = textL l l.length ++ (if 0 < l.length then [32] else []) ++ itoaI v := by
  rw [List.length_append, List.length_singleton, textL, textL_app l [v] l.length (Nat.le_refl _), getD_app_at]
theorem valsL_app (l m : List Int) (top : Int) : ∀ n, n ≤ l.length → valsL (l ++ m) top n = valsL l top n
  | 0, _ => rfl
  | n+1, h => by rw [valsL, valsL, valsL_app l m top n (by omega), getD_app (by omega)]
theorem valsL_snoc (l : List Int) (top v : Int) : valsL (l ++ [v]) top (l ++ [v]).length = valsL l top l.length ++ (if 255 < top then [v / 256] else []) ++ [v % 256] := by
  rw [List.length_append, List.length_singleton, valsL, valsL_app l [v] top l.length (Nat.le_refl _), getD_app_at]
theorem itoaI_pos (v : Int) : 0 < (itoaI v).length := by
  unfold itoaI
  rw [List.length_map]
  by_cases h : v < 0
  · obtain ⟨u, rfl⟩ : ∃ u : Nat, v = -(u : Int) := ⟨v.natAbs, by omega⟩
    rw [Lib.itoa_neg u (by omega)]; simp
  · obtain ⟨u, rfl⟩ := Int.eq_ofNat_of_zero_le (show 0 ≤ v by omega)
    rw [Lib.itoa_nonneg, Lib.decDigits_length]
    exact Lib.nDigits_pos u
theorem textL_pos (l : List Int) : ∀ n, 0 < n → 0 < (textL l n).length
  | 0, h => by omega
  | n+1, _ => by rw [textL, List.length_append]; have := itoaI_pos (l.getD n 0); omega
theorem pkTo_app (l m : List Int) (b : Nat) : ∀ k, 8 * b + k ≤ l.length → pkTo (l ++ m) b k = pkTo l b k
  | 0, _ => rfl
  | k+1, h => by rw [pkTo, pkTo, pkTo_app l m b k (by omega), getD_app (by omega)]
theorem pkTo_snoc (l : List Int) (v : Int) {q r : Nat} (h : l.length = 8 * q + r) (hr : r < 8) : pkTo (l ++ [v]) q 8 = pkTo l q 8 + v * 2 ^ (7 - r) := by
  have e1 : pkTo (l ++ [v]) q 8 = pkTo (l ++ [v]) q (r + 1) := by
    have := pkTo_end (l := l ++ [v]) (b := q) (m := r + 1) (by rw [List.length_append, List.length_singleton]; omega) (8 - (r + 1))
    rwa [show r + 1 + (8 - (r + 1)) = 8 by omega] at this
  have e2 : pkTo l q 8 = pkTo l q r := by
    have := pkTo_end (l := l) (b := q) (m := r) (by omega) (8 - r)
    rwa [show r + (8 - r) = 8 by omega] at this
  rw [e1, e2, pkTo, pkTo_app l [v] q r (by omega), ← h, getD_app_at]
theorem packL_app (l : List Int) (v : Int) {n : Nat} (h : 8 * n ≤ l.length) : packL (l ++ [v]) n = packL l n := by
  unfold packL
  refine List.map_congr_left fun b hb => ?_
  rw [List.mem_range] at hb
  exact pkTo_app l [v] b 8 (by omega)
theorem packL_snoc0 (l : List Int) (v : Int) {q : Nat} (h : l.length = 8 * q) : packL (l ++ [v]) (((l ++ [v]).length + 7) / 8) = packL l ((l.length + 7) / 8) ++ [v * 2 ^ 7] := by
  have e1 : ((l ++ [v]).length + 7) / 8 = q + 1 := by rw [List.length_append, List.length_singleton]; omega
  have e2 : (l.length + 7) / 8 = q := by omega
  have e3 : pkTo l q 8 = 0 := by
    have := pkTo_end (l := l) (b := q) (m := 0) (by omega) 8
    rw [Nat.zero_add] at this; exact this
  rw [e1, e2, packL_succ, packL_app l v (by omega), pkTo_snoc l v (r := 0) (by omega) (by omega), e3]
  simp
theorem packL_snoc1 (l : List Int) (v : Int) {q r : Nat} (h : l.length = 8 * q + r) (h0 : 0 < r) (hr : r < 8) :
    packL (l ++ [v]) (((l ++ [v]).length + 7) / 8) = packL l q ++ [pkTo l q 8 + v * 2 ^ (7 - r)] ∧ packL l ((l.length + 7) / 8) = packL l q ++ [pkTo l q 8] := by
  have e1 : ((l ++ [v]).length + 7) / 8 = q + 1 := by rw [List.length_append, List.length_singleton]; omega
  have e2 : (l.length + 7) / 8 = q + 1 := by omega
  rw [e1, e2, packL_succ, packL_succ, packL_app l v (by omega), pkTo_snoc l v h hr]
  exact ⟨rfl, rfl⟩
theorem rowS_take (pix : List Int) (W : Nat) (kind top : Int) (y x : Nat) {s : List Int} (hs : pxS pix kind top (4 * (y * W + x)) = s) : rowS pix W kind top y x ++ s.take s.length = rowS pix W kind top y (x + 1) := by
  rw [rowS_succ, hs, List.take_length]
theorem take_snocD {s : List Int} {k : Nat} (h : k < s.length) (l : List Int) : l ++ s.take (k + 1) = (l ++ s.take k) ++ [s.getD k 0] := by
  rw [List.take_succ_eq_append_getElem h, List.getD_eq_getElem?_getD, List.getElem?_eq_getElem h, List.append_assoc]; rfl
end Go.Proofs.YtbmlopklhgladaaDoor.Pnm
set_option linter.unusedVariables false
namespace Go.Proofs.YtbmlopklhgladaaDoor.K
open Go Go.RowKit

/-- a slice that owns its cells; none of them is frozen -/
def OwnM (w : World) (base : Nat) (e : TypeId) (A : Option Addr) (n c : Nat) (xs : List Value) : Prop :=
  xs.length = n ∧ ((A = none ∧ c = 0 ∧ n = 0) ∨ ∃ g cur fz, A = some ⟨g, 0, none⟩ ∧ base ≤ g ∧ w.heap[g]? = some (.cells cur e fz) ∧ (fz.2 = 0 ∨ cur.size ≤ fz.1) ∧ n ≤ c ∧ c ≤ maxLen ∧ cur.size = c ∧ cur.toList.take n = xs)
section
variable {w w' : World} {base : Nat} {e : TypeId} {A : Option Addr} {n c : Nat} {xs : List Value}
theorem OwnM.of_own (h : w.ownsRow base e 1 (.slice A n c) n xs) : OwnM w base e A n c xs := by
  refine ⟨by have := h.1; simpa using this, ?_⟩
  rcases h.2 with ⟨hv, h0⟩ | ⟨g, cap, cur, hv, h1, h2, h3, h4, h5, h6⟩
  · injection hv with e1 e2 e3; exact .inl ⟨e1, e3, h0⟩
  · injection hv with e1 e2 e3
    subst e1 e3
    exact .inr ⟨g, cur, (0, 0), rfl, h1, h2, .inl rfl, h3, h4, by simpa using h5, by simpa using h6⟩
theorem OwnM.kept {row : Option Nat} (h : OwnM w base e A n c xs) (hg : w.grownBy w' row) (hne : A = none ∨ (Value.slice A n c).ownBlock ≠ row) : OwnM w' base e A n c xs := by
  refine ⟨h.1, ?_⟩
  rcases h.2 with h2 | ⟨g, cur, fz, rfl, h1, h2, h3⟩
  · exact .inl h2
  · refine .inr ⟨g, cur, fz, rfl, h1, (hg.block g (Array.getElem?_eq_some_iff.1 h2).1 ?_).trans h2, h3⟩
    rcases hne with h | h
    · cases h
    · simpa [Value.ownBlock] using h
theorem OwnM.below (h : OwnM w base e A n c xs) (hb : Below w.heap.size w w') : OwnM w' base e A n c xs := by
  refine ⟨h.1, ?_⟩
  rcases h.2 with h2 | ⟨g, cur, fz, rfl, h1, h2, h3⟩
  · exact .inl h2
  · exact .inr ⟨g, cur, fz, rfl, h1, (hb.block g (Array.getElem?_eq_some_iff.1 h2).1).trans h2, h3⟩
theorem OwnM.lt (h : OwnM w base e A n c xs) : ∀ k, (Value.slice A n c).ownBlock = some k → base ≤ k ∧ k < w.heap.size := by
  intro k hk
  rcases h.2 with ⟨rfl, -, -⟩ | ⟨g, cur, fz, rfl, h1, h2, -⟩
  · simp [Value.ownBlock] at hk
  · simp [Value.ownBlock] at hk
    subst hk
    exact ⟨h1, (Array.getElem?_eq_some_iff.1 h2).1⟩
theorem OwnM.sl (h : OwnM w base e A n c xs) : Sl w A xs := by
  intro j u hu
  rcases h.2 with ⟨rfl, -, h0⟩ | ⟨g, cur, fz, rfl, h1, h2, -, -, -, -, ht⟩
  · have := h.1; rw [h0] at this; rw [List.eq_nil_of_length_eq_zero this] at hu; simp at hu
  · refine ⟨g, 0, rfl, ?_⟩
    rw [Nat.zero_add, cell_of_row w g j cur e fz h2]
    rw [← ht, List.getElem?_take] at hu
    split at hu
    · simpa using hu
    · cases hu
theorem OwnM.mono {base' : Nat} (h : OwnM w base e A n c xs) (hb : base' ≤ base) : OwnM w base' e A n c xs := by
  refine ⟨h.1, ?_⟩
  rcases h.2 with h2 | ⟨g, cur, fz, rfl, h1, h2⟩
  · exact .inl h2
  · exact .inr ⟨g, cur, fz, rfl, Nat.le_trans hb h1, h2⟩
end
theorem run_storeCells_atM (P : Program) (g o : Nat) (t : TypeId) (fz : Nat × Nat) : ∀ (vs : List Value) (i : Nat) (cur : Array Value) (w : World), w.heap[g]? = some (.cells cur t fz) → (fz.2 = 0 ∨ cur.size ≤ fz.1) → o + i + vs.length ≤ cur.size → (∀ v ∈ vs, v.oneCell' = true) →
    (storeCells ⟨g, o, none⟩ vs i).run P w = .ok () (w.setRow g (cur.toList.take (o + i) ++ vs ++ cur.toList.drop (o + i + vs.length)).toArray)
  | [], i, cur, w, hg, _, _, _ => by
    simp only [storeCells, List.append_nil, List.length_nil, Nat.add_zero, List.take_append_drop, Array.toArray_toList]
    rw [setRow_self w g cur t fz hg]
    rfl
  | v :: rest, i, cur, w, hg, hfz, hl, h1 => by
    have hi : o + i < cur.size := by simp at hl; omega
    have hadd : (⟨g, o, none⟩ : Addr).add i = ⟨g, o + i, none⟩ := by unfold Addr.add; split <;> simp_all
    have hcell : w.cell? ⟨g, o + i, none⟩ = some cur[o + i] := by simp [World.cell?, hg, hi]
    have hfro : w.frozen? ⟨g, o + i, none⟩ = false := by
      obtain ⟨lo, hi'⟩ := fz
      simp only [World.frozen?, hg, Bool.and_eq_false_iff, decide_eq_false_iff_not]
      simp only at hfz
      rcases hfz with h | h
      · right; omega
      · left; omega
    have hst : (store ((⟨g, o, none⟩ : Addr).add i) v).run P w = .ok () (w.setRow g (cur.setIfInBounds (o + i) v)) := by
      rw [hadd, run_store P w _ v _ (h1 v (by simp)), hcell]
      simp [hfro, setCell_eq_setRow w g (o + i) cur t fz v hg]
    have ih := run_storeCells_atM P g o t fz rest (i + 1) (cur.setIfInBounds (o + i) v) (w.setRow g (cur.setIfInBounds (o + i) v)) (setRow_heap w g cur _ t _ hg) (by simpa using hfz) (by simp at hl ⊢; omega) (fun x hx => h1 x (by simp [hx]))
    simp only [storeCells, Sem.run_bind, hst, Result.andThen_ok, ih, setRow_setRow]
    congr 3
    have e := list_seg_step cur.toList (o + i) v rest (by simp at hl ⊢; omega)
    simpa [Array.toList_setIfInBounds, Nat.add_assoc] using e
section
variable {P : Program} (w : World)
theorem run_append_ownM (base : Nat) (t ty e : TypeId) (i : TypeInfo) (z : Value) (bytes : Nat) (ht : P.underlying t = some (.slice e)) (hi : P.info? e = some i) (hz : i.zero = some z)
    (hsize : i.size = 1) (hby : i.bytes = bytes) (hzs : z.cells.size = 1)
    (A : Option Addr) (n c : Nat) (xs : List Value) (hown : OwnM w base e A n c xs)
    (a : Addr) (m c2 : Nat) (news : List Value) (hl : news.length = m) (hnews : ∀ j u, news[j]? = some u → w.cell? (a.add j) = some u) (h1 : ∀ u ∈ news, u.oneCell' = true)
    (h63 : n + m ≤ maxLen) (hbytes : (n + m) * bytes ≤ 140737488355328) (hbase : base ≤ w.heap.size) :
    ∃ A' c' w', (Builtin.append_ #[t, t] ty #[.slice A n c, .slice (some a) m c2]).run P w = .ok (.slice A' (n + m) c') w' ∧ OwnM w' base e A' (n + m) c' (xs ++ news) ∧ w.grownBy w' (Value.slice A n c).ownBlock := by
  rcases hown.2 with ⟨rfl, rfl, rfl⟩ | ⟨g, cur, fz, rfl, hbg, hg, hfz, hnc, hcm, hcs, htake⟩
  · obtain ⟨v', w', r1, r2, r3, r4⟩ := run_append_own (P := P) w base t ty e i z 1 bytes ht hi hz hsize hby hzs (by omega) (.slice none 0 0) 0 xs ⟨by simpa using hown.1, .inl ⟨rfl, rfl⟩⟩ a m c2 news (by simpa using hl) hnews h1 h63 hbytes hbase
    obtain ⟨A', c', rfl⟩ := own_form r2
    exact ⟨A', c', w', r1, OwnM.of_own r2, r3⟩
  · subst hby
    have hsmall : n + m ≤ 9223372036854775807 := by simp only [maxLen] at h63; omega
    have hlen : (xs ++ news).length = n + m := by rw [List.length_append, hown.1, hl]
    by_cases hroom : n + m ≤ c
    · have hfit : n + news.length ≤ cur.size := by rw [hl, hcs]; exact hroom
      have hf := run_firstCells_some (P := P) w 1 m a m c2 news (by simpa using hl) hnews
      have hst := run_storeCells_atM P g n e fz news 0 cur w hg hfz (by simpa using hfit) h1
      simp only [Nat.add_zero] at hst
      refine ⟨some ⟨g, 0, none⟩, c, w.setRow g (cur.toList.take n ++ news ++ cur.toList.drop (n + news.length)).toArray, ?_, ⟨hlen, .inr ⟨g, _, fz, rfl, hbg, setRow_heap w g cur _ e _ hg, ?_, hroom, hcm, ?_, ?_⟩⟩, ⟨rfl, rfl, rfl, by simp, fun k _ hk => setRow_other w g k _ (fun e => hk (by simp [Value.ownBlock, e]))⟩⟩
      · simp [Builtin.append_, run_underlying ht, sizeOf, typeInfo, hi, hsize, Builtin.lenOf, hroom, hf, Addr.add_lit, hst]
      · rcases hfz with h | h
        · exact .inl h
        · refine .inr ?_
          simp only [List.size_toArray, List.length_append, List.length_take, List.length_drop, Array.length_toList]
          omega
      · simp only [List.size_toArray, List.length_append, List.length_take, List.length_drop, Array.length_toList]
        omega
      · rw [htake, ← hlen]
        exact List.take_left
    · have holds : ∀ j u, xs[j]? = some u → w.cell? ((⟨g, 0, none⟩ : Addr).add j) = some u := fun j u hu => by
        obtain ⟨b', o', e', hc⟩ := hown.sl j u hu
        injection e' with e'
        injection e' with e1 e2
        subst e1 e2
        rw [Addr.add_lit]
        exact hc
      have hr := run_append_grow (P := P) w t ty e i z ht hi hz ⟨g, 0, none⟩ n c xs (by rw [hsize]; simpa using hown.1) holds a m c2 news (by rw [hsize]; simpa using hl) hnews (by omega) (by omega) (growslice_fits (by omega) hbytes)
      have hge := grownCap_ge w (n + m) c e
      have hcm2 : grownCap w (n + m) c e ≤ maxLen := grownCap_le_maxLen w (n + m) c e h63
      refine ⟨_, _, _, hr, ⟨hlen, .inr ⟨w.heap.size, _, (0, 0), rfl, hbase, heap_alloc_new w.drew _, .inl rfl, hge, hcm2, ?_, ?_⟩⟩, ⟨rfl, rfl, rfl, by simp, fun k hk _ => Below.heap_alloc w.drew _ k hk⟩⟩
      · have := hown.1
        simp only [Array.size_append, List.size_toArray, size_zeroCells, hzs, hown.1, hl]
        omega
      · simp only [Array.toList_append, List.append_assoc]
        rw [← List.append_assoc, ← hlen]
        exact List.take_left
/-- 'append(own, xs...)', in the text's order; xs whatever slice that is read -/
theorem wpList_append_m {ops : Array Oper} {rest : List Oper} {o : Oper} {a : Act} {Q : Exit → Act → World → Prop} (hgd : o.guard = none) (s x : Operand) (t : TypeId)
    (ho : o.op = .call { callee := .builtin .append, args := #[s, x], argTypes := #[t, t] }) (base : Nat) (e : TypeId) (bytes : Nat) (z : Value) (ht : P.underlying t = some (.slice e))
    (hinfo : (P.info? e).map (fun i => (i.zero, i.size, i.bytes)) = some (some z, 1, bytes)) (hzs : z.cells.size = 1)
    (A : Option Addr) (n c : Nat) (xs : List Value) (hs : a.eval s = .slice A n c) (hown : OwnM w base e A n c xs)
    (A2 : Option Addr) (m c2 : Nat) (news : List Value) (hx : a.eval x = .slice A2 m c2) (hl : news.length = m) (hm : 0 < m) (hr : Sl w A2 news) (h1 : ∀ u ∈ news, u.oneCell' = true)
    (h63 : n + m ≤ maxLen) (hbytes : (n + m) * bytes ≤ 140737488355328) (hbase : base ≤ w.heap.size)
    (h : ∀ A' c' w', OwnM w' base e A' (n + m) c' (xs ++ news) → w.grownBy w' (Value.slice A n c).ownBlock → wpList P ops Q rest (a.put o.dst (.slice A' (n + m) c')) w') : wpList P ops Q (o :: rest) a w := by
  obtain ⟨i, hi, hz, hz1, hz2⟩ := info_parts hinfo
  have h0 : 0 < news.length := by omega
  obtain ⟨b, off, rfl, _⟩ := hr 0 news[0] (List.getElem?_eq_getElem h0)
  refine wpList_plain hgd fun K hK => ?_
  obtain ⟨A', c', w', hrun, g1, g2⟩ := run_append_ownM (P := P) w base t o.type e i z bytes ht hi hz hz1 hz2 hzs A n c xs hown ⟨b, off, none⟩ m c2 news hl (fun j u hu => by
    obtain ⟨b', off', e', hc⟩ := hr j u hu
    injection e' with e'
    injection e' with e1 e2
    subst e1 e2
    rw [Addr.add_lit]
    exact hc) h1 h63 hbytes hbase
  unfold Oper.wp execOp
  simp only [ho, resolve, invoke, builtin, Sem.run_bind, Sem.run_pure, Result.andThen_ok, List.map_toArray, List.map_cons, List.map_nil, hs, hx, hrun]
  exact hK _ _ (h A' c' w' g1 g2)
end
/-- what []byte(s) lays -/
theorem OwnM.bytes (w : World) (e : TypeId) (s : ByteArray) (xs : List Int) (hs : s.data.toList.map (fun b => Value.int .u8 b.toNat) = xs.map (.int .u8)) (hm : s.size ≤ maxLen) : OwnM (Lib.bytesWorld w e s) w.heap.size e (some ⟨w.heap.size, 0, none⟩) s.size (grownCap w s.size 0 e) (xs.map (.int .u8)) := by
  have hds : s.data.size = s.size := rfl
  have hlen : (xs.map (Value.int .u8)).length = s.size := by rw [← hs, List.length_map, Array.length_toList, hds]
  have hge := grownCap_ge w s.size 0 e
  have hsz : (Lib.bytesCells w e s).size = grownCap w s.size 0 e := by
    unfold Lib.bytesCells
    rw [Array.size_append, Array.size_map, Array.size_replicate, hds]
    omega
  refine ⟨hlen, .inr ⟨w.heap.size, _, _, rfl, Nat.le_refl _, Lib.bytesWorld_at_new w e s, .inr (Nat.le_refl _), hge, grownCap_le_maxLen w s.size 0 e hm, hsz, ?_⟩⟩
  unfold Lib.bytesCells
  rw [← hs, Array.toList_append, Array.toList_map]
  exact List.take_left' (by rw [List.length_map, Array.length_toList, hds])
end Go.Proofs.YtbmlopklhgladaaDoor.K
set_option linter.unusedVariables false
set_option linter.unusedSimpArgs false
namespace Go.Proofs.YtbmlopklhgladaaDoor.Pnm
open Go.RowKit K Ian Ard

theorem infoU8 : (Tryd.prog.info? 5).map (fun i => (i.zero, i.size, i.bytes)) = some (some (.int .u8 0), 1, 1) := by kernel_rfl
/-- the bytes that a call owns, from a block on -/
structure Rw (B : Nat) (w0 w : World) (A : Option Addr) (c : Nat) (bs : List Int) : Prop where
  own : w.ownsRow B 5 1 (.slice A bs.length c) bs.length (bs.map (.int .u8))
  bel : Below B w0 w
  le : B ≤ w.heap.size
theorem Rw.old {B : Nat} {w0 w w' : World} {A : Option Addr} {c : Nat} {bs : List Int} (h : Rw B w0 w A c bs) (hb : Below w.heap.size w w') : Rw B w0 w' A c bs := ⟨own_b h.own hb, h.bel.trans (hb.mono h.le), Nat.le_trans h.le hb.size⟩
theorem Rw.app {B n : Nat} {w0 w w' : World} {A A' : Option Addr} {c c' : Nat} {bs bs2 : List Int} (h : Rw B w0 w A c bs) (ho : w'.ownsRow B 5 1 (.slice A' n c') n (bs.map (.int .u8) ++ bs2.map (.int .u8))) (hn : n = (bs ++ bs2).length) (hg : w.grownBy w' (Value.slice A bs.length c).ownBlock) : Rw B w0 w' A' c' (bs ++ bs2) := by
  subst hn
  exact ⟨by rw [List.map_append]; exact ho, h.bel.grown hg h.le (fun k e => (h.own.lt k e).1), Nat.le_trans h.le hg.size⟩
theorem si_off {w w' : World} {k : IntKind} {A : Option Addr} {n : Nat} {l : List Int} {row : Option Nat} (h : SI w k A n l) (hg : w.grownBy w' row) (hr : ∀ a, A = some a → row ≠ some a.block) : SI w' k A n l :=
  ⟨h.len, h.sz, fun j u hu => by
    obtain ⟨b, o, rfl, hc⟩ := h.sl j u hu
    refine ⟨b, o, rfl, ?_⟩
    have hk := hg.block b (World.block_lt_of_cell? w _ hc) (fun e => hr ⟨b, o, none⟩ rfl e.symm)
    unfold World.cell? at hc ⊢
    simp only [hk]
    exact hc⟩
/-- samples that lie apart from the bytes that are written -/
structure Sx (w : World) (A2 : Option Addr) (s : List Int) (v : Value) : Prop where
  si : SI w .i64 A2 s.length s
  off : ∀ a, A2 = some a → a.block < w.heap.size ∧ v.ownBlock ≠ some a.block
theorem Sx.old {w w' : World} {A2 : Option Addr} {s : List Int} {v : Value} (h : Sx w A2 s v) (hb : Below w.heap.size w w') : Sx w' A2 s v := ⟨h.si.below hb (Nat.le_refl _), fun a e => ⟨Nat.lt_of_lt_of_le (h.off a e).1 hb.size, (h.off a e).2⟩⟩
theorem Sx.app {w w' : World} {A2 : Option Addr} {s : List Int} {v v' : Value} (h : Sx w A2 s v) (hg : w.grownBy w' v.ownBlock) (hv : v'.ownBlock = v.ownBlock ∨ v'.ownBlock = some w.heap.size) : Sx w' A2 s v' :=
  ⟨si_off h.si hg (fun a e => (h.off a e).2), fun a e => ⟨Nat.lt_of_lt_of_le (h.off a e).1 hg.size, by
    rcases hv with hv | hv
    · rw [hv]; exact (h.off a e).2
    · rw [hv]; intro e'; injection e' with e'; have := (h.off a e).1; omega⟩⟩
theorem Sx.len {w : World} {A2 : Option Addr} {s : List Int} {A A' : Option Addr} {n n' c c' : Nat} (h : Sx w A2 s (.slice A n c)) (he : A = A') : Sx w A2 s (.slice A' n' c') := by
  subst he
  refine ⟨h.si, fun a e => ⟨(h.off a e).1, ?_⟩⟩
  have := (h.off a e).2
  cases A with
  | none => simp [Value.ownBlock]
  | some b => exact this
theorem push_end {B g cap : Nat} {w0 w w5 : World} {A A2 : Option Addr} {c : Nat} {bs s : List Int} {v : Int} {o : Obj} (h : Rw B w0 w A c bs) (hs : Sx w A2 s (.slice A bs.length c)) (hown : w5.ownsRow B 5 1 (.slice (some ⟨g, 0, none⟩) (bs.length + 1) cap) (bs.length + 1) (bs.map (.int .u8) ++ [.int .u8 v])) (hg : (w.alloc o).grownBy w5 (Value.slice A bs.length c).ownBlock) (hat : (Value.slice A bs.length c).ownBlock = some g ∨ g = w.heap.size + 1) :
    Rw B w0 w5 (some ⟨g, 0, none⟩) cap (bs ++ [v]) ∧ Sx w5 A2 s (.slice (some ⟨g, 0, none⟩) (bs ++ [v]).length cap) := by
  have hb := (Below.refl _ w).alloc (Nat.le_refl _) o
  refine ⟨(h.old hb).app (bs2 := [v]) hown (by rw [List.length_append]; rfl) hg, ?_⟩
  have h2 := (hs.old hb).app (v' := .slice (some ⟨g, 0, none⟩) (bs.length + 1) cap) hg (by
    rcases hat with h | h
    · exact .inl h.symm
    · exact .inr (by rw [h, World.size_alloc]; rfl))
  exact h2.len rfl
theorem app_end {B n : Nat} {w0 w w5 : World} {A A2 A5 : Option Addr} {c c5 : Nat} {bs s bs2 : List Int} (h : Rw B w0 w A c bs) (hs : Sx w A2 s (.slice A bs.length c)) (hown : w5.ownsRow B 5 1 (.slice A5 n c5) n (bs.map (.int .u8) ++ bs2.map (.int .u8))) (hn : n = (bs ++ bs2).length) (hg : w.grownBy w5 (Value.slice A bs.length c).ownBlock) (hat : (Value.slice A5 n c5).ownBlock = (Value.slice A bs.length c).ownBlock ∨ (Value.slice A5 n c5).ownBlock = some w.heap.size) :
    Rw B w0 w5 A5 c5 (bs ++ bs2) ∧ Sx w5 A2 s (.slice A5 (bs ++ bs2).length c5) := ⟨h.app hown hn hg, (hs.app hg hat).len rfl⟩
def RwS (B : Nat) (w0 w : World) (A2 : Option Addr) (s bs : List Int) (so : Value) : Prop := ∃ A c, so = .slice A bs.length c ∧ Rw B w0 w A c bs ∧ Sx w A2 s (.slice A bs.length c)
theorem own_setB {w : World} {base g n c i : Nat} {bs : List Int} {v : Int} (h : w.ownsRow base 5 1 (.slice (some ⟨g, 0, none⟩) n c) n (bs.map (.int .u8))) : (w.setCell ⟨g, i, none⟩ (.int .u8 v)).ownsRow base 5 1 (.slice (some ⟨g, 0, none⟩) n c) n ((bs.set i v).map (.int .u8)) := by
  rw [List.map_set]
  refine ⟨by have := h.1; simpa using this, ?_⟩
  rcases h.2 with ⟨hv, -⟩ | ⟨g', cap, cur, hv, h1, h2, h3, h4, h5, h6⟩
  · cases hv
  · injection hv with e1 e2 e3
    injection e1 with e1
    injection e1 with e1
    subst e1 e3
    refine .inr ⟨g, c, cur.setIfInBounds i (.int .u8 v), rfl, h1, ?_, h3, h4, by simpa using h5, ?_⟩
    · rw [setCell_eq_setRow w g i cur _ (0, 0) _ h2]; exact setRow_heap _ _ _ _ _ _ h2
    · rw [Array.toList_setIfInBounds, List.take_set, h6]
theorem set_last (l : List Int) (a b : Int) {q : Nat} (h : l.length = q) : (l ++ [a]).set q b = l ++ [b] := by
  subst h
  rw [List.set_append_right _ _ (Nat.le_refl _), Nat.sub_self]; rfl
theorem u64_in {n : Int} (h : 0 ≤ n ∧ n < 18446744073709551616) : IntKind.u64.wrap n = n := by
  have h1 : IntKind.u64.wrap n = n % 18446744073709551616 := rfl
  omega
theorem u8_in {n : Int} (h : 0 ≤ n ∧ n < 256) : IntKind.u8.wrap n = n := by
  have h1 : IntKind.u8.wrap n = n % 256 := rfl
  omega
theorem meas {k m : Nat} (h : k + 1 ≤ m) : m - (intOf (Value.int .i64 ((k : Int) + 1))).toNat < m - (intOf (Value.int .i64 (k : Int))).toNat := by
  simp only [intOf]; omega
theorem rowS_four (pix : List Int) (W : Nat) {kind top : Int} (h : kind = 4) (y n : Nat) : (rowS pix W kind top y n).length = n := by
  induction n with
  | zero => rfl
  | succ n ih =>
    rw [rowS_succ, List.length_append, ih]
    unfold pxS smpsI
    rw [if_pos (by omega)]
    split <;> rfl
theorem pxS_four (pix : List Int) {kind top : Int} (h : kind = 4) (q : Nat) : (pxS pix kind top q).length = 1 := by
  unfold pxS smpsI
  rw [if_pos (by omega)]
  split <;> rfl
def RowP (w : World) (bs : List Int) (e : Ending) (w' : World) : Prop := Below w.heap.size w w' ∧ ∃ A c, e = .returned (.slice A bs.length c) ∧ w'.ownsRow w.heap.size 5 1 (.slice A bs.length c) bs.length (bs.map (.int .u8))
set_option maxRecDepth 100000 in
set_option maxHeartbeats 4000000 in
theorem rrow_any {W H pn pc y : Nat} {P : Option Addr} {pix : List Int} {kind top : Int} (w : World) (HP : SI w .u16 P pn pix) (hwf : ∀ x ∈ pix, 0 ≤ x ∧ x < 65536) (hpn : pn = 4 * W * H) (hW : W ≤ 4096) (hH : H ≤ 4096) (hy : y < H) (k1 : 1 ≤ kind) (k2 : kind ≤ 6) (t1 : 1 ≤ top) (t2 : top ≤ 65535) (HV : Vars w) :
    Calls Tryd.prog 38 #[.agg #[.int .i64 W, .int .i64 H, .slice P pn pc], .int .i64 y, .int .i64 kind, .int .i64 top] w (RowP w (rowB pix W kind top y)) := by
  have HWF := Lib.hid hwf
  have hb0 : Below w.heap.size w (w.alloc (.cells #[.int .i64 W, .int .i64 H, .slice P pn pc] 26)) := (Below.refl _ w).alloc (Nat.le_refl _) _
  have hr0 : (w.alloc (.cells #[.int .i64 W, .int .i64 H, .slice P pn pc] 26)).heap[w.heap.size]? = some (.cells #[.int .i64 W, .int .i64 H, .slice P pn pc] 26 (0, 0)) := heap_alloc_new w _
  have hs0 : (w.alloc (.cells #[.int .i64 W, .int .i64 H, .slice P pn pc] 26)).heap.size = w.heap.size + 1 := World.size_alloc _ _
  have HPN := Lib.hid hpn
  have HSI := Lib.hid HP
  have HVV := Lib.hid HV
  have hvb : vb ≤ w.heap.size := HV.len
  clear hwf hpn HP HV
  go_enter Tryd.func38, Tryd.ntmps38
  go_upto_region 1 with (fail)
  generalize w.alloc (.cells #[.int .i64 W, .int .i64 H, .slice P pn pc] 26) = W0 at hb0 hr0 hs0 ⊢
  have HB0 := Lib.hid hb0
  have HR0 := Lib.hid hr0
  have HS0 := Lib.hid hs0
  have HRW0 : Hid (Rw (w.heap.size + 1) W0 W0 none 0 []) := ⟨World.ownsRow_nil _ _ _ _, Below.refl _ _, by omega⟩
  clear hb0 hr0 hs0
  go_wp2_with fail
  go_loopw [9, 10] (fun so sx wr => ∃ (x : Nat) (A : Option Addr) (c : Nat), x ≤ W ∧ sx = .int .i64 x ∧ so = .slice A (preI (rowS pix W kind top y x) kind top).length c ∧ Hid (Rw (w.heap.size + 1) W0 wr A c (preI (rowS pix W kind top y x) kind top))) (fun _ sx _ => W - (intOf sx).toNat)
  case atStart => 
    have hp0 : preI (rowS pix W kind top y 0) kind top = [] := by unfold preI; simp [rowS, textL, packL, valsL]
    exact ⟨0, none, 0, by omega, rfl, by rw [hp0]; rfl, by rw [hp0]; exact HRW0⟩
  case round =>
    clear HRW0
    obtain ⟨x, A, c, hx, rfl, rfl, HRW⟩ := hrel
    have hrx : wr.heap[w.heap.size]? = some (.cells #[.int .i64 W, .int .i64 H, .slice P pn pc] 26 (0, 0)) := (HRW.out.bel.block _ (Nat.lt_succ_self _)).trans HR0.out
    have q0 := row_cell hrx 0
    have q1 := row_cell hrx 1
    have q2 := row_cell hrx 2
    clear hrx
    by_cases hlt : x < W
    · have d1 : decide ((x : Int) < (W : Int)) = true := decide_eq_true (by omega)
      have HBWr : Hid (Below w.heap.size w wr) := HB0.out.trans (HRW.out.bel.mono (Nat.le_succ _))
      have HPX := Lib.hid (pixel_any (H := H) (pc := pc) wr (HSI.out.below HBWr.out (Nat.le_refl _)) HPN.out hW hH hlt hy)
      go_wp2_with fail
      refine HPX.out.mono ?_
      rintro e w1 ⟨hb1, rfl⟩
      have HB1 := Lib.hid (HRW.out.old hb1)
      have b0 := pix_bd HWF.out (4 * (y * W + x))
      have b1 := pix_bd HWF.out (4 * (y * W + x) + 1)
      have b2 := pix_bd HWF.out (4 * (y * W + x) + 2)
      obtain ⟨s, hs⟩ : ∃ s, pxS pix kind top (4 * (y * W + x)) = s := ⟨_, rfl⟩
      have HSS := Lib.hid hs
      have HSB : Hid (∀ v ∈ s, 0 ≤ v ∧ v ≤ 65535) := by show ∀ v ∈ s, _; rw [← hs]; exact smpsI_bd b0 b1 b2 t1 t2
      unfold pxS at hs
      have HSM := Lib.hid (rsmps_any (kind := kind) (a := pix.getD (4 * (y * W + x) + 3) 0) w1 k1 k2 b0 b1 b2 t1 t2)
      rw [hs] at HSM
      clear hb1 HPX b0 b1 b2 hs HRW q0 q1 q2 HBWr
      go_wp2_with fail
      refine HSM.out.mono ?_
      rintro e w2 ⟨hb2, A2, c2, rfl, hs2, hof⟩
      have HB2 := Lib.hid (HB1.out.old hb2)
      have HSX : Hid (Sx w2 A2 s (.slice A (preI (rowS pix W kind top y x) kind top).length c)) := ⟨hs2, fun a e => by
        have h1 := hof a e
        have h0 : 0 < s.length := by have := smpsI_len kind top (pix.getD (4 * (y * W + x)) 0) (pix.getD (4 * (y * W + x) + 1) 0) (pix.getD (4 * (y * W + x) + 2) 0); rw [← HSS.out]; exact this.1
        obtain ⟨b', o', x', e', hc', -, hlt'⟩ := hs2.cells h0
        rw [e] at e'
        injection e' with e'
        subst e'
        refine ⟨hlt', fun e2 => ?_⟩
        have := (HB1.out.own.lt _ e2).2
        omega⟩
      have HLS : Hid (1 ≤ s.length ∧ s.length ≤ 3) := by show _ ∧ _; rw [← HSS.out]; exact smpsI_len _ _ _ _ _
      clear hb2 hs2 hof HB1 HSM
      obtain ⟨rx, hrx⟩ : ∃ rx, rowS pix W kind top y x = rx := ⟨_, rfl⟩
      have HRX := Lib.hid hrx
      have HRL : Hid (rx.length ≤ 3 * x) := by show _ ≤ _; rw [← hrx]; exact (rowS_len pix W kind top y x).2
      have HRB : Hid (∀ v ∈ rx, 0 ≤ v ∧ v ≤ 65535) := by show ∀ v ∈ rx, _; rw [← hrx]; exact rowS_bd HWF.out t1 t2 W y x
      rw [hrx] at HB2 HSX
      rw [hrx]
      clear hrx
      go_wp2_with fail
      go_loopw [9, 12] (fun so sk wr => ∃ (k : Nat) (A : Option Addr) (c : Nat), k ≤ s.length ∧ sk = .int .i64 k ∧ so = .slice A (preI (rx ++ s.take k) kind top).length c ∧ Hid (Rw (w.heap.size + 1) W0 wr A c (preI (rx ++ s.take k) kind top)) ∧ Hid (Sx wr A2 s (.slice A (preI (rx ++ s.take k) kind top).length c))) (fun _ sk _ => s.length - (intOf sk).toNat)
      case atStart => exact ⟨0, A, c, by omega, rfl, by rw [List.take_zero, List.append_nil], by rw [List.take_zero, List.append_nil]; exact HB2, by rw [List.take_zero, List.append_nil]; exact HSX⟩
      case round =>
        clear HB2 HSX
        obtain ⟨k, A, c, hk, rfl, rfl, HRW, HSX⟩ := hrel
        by_cases hkl : k < s.length
        · have d2 : decide ((k : Int) < (s.length : Int)) = true := decide_eq_true (by omega)
          have HTK := Lib.hid (take_snocD hkl rx)
          have HCL : Hid ((rx ++ s.take k).length = rx.length + k) := by show _ = _; rw [List.length_append, List.length_take]; omega
          have HCB : Hid (∀ v ∈ rx ++ s.take k, 0 ≤ v ∧ v ≤ 65535) := fun v hv => by
            rcases List.mem_append.1 hv with h | h
            · exact HRB.out v h
            · exact HSB.out v (List.mem_of_mem_take h)
          obtain ⟨cu, hcu⟩ : ∃ cu, rx ++ s.take k = cu := ⟨_, rfl⟩
          rw [hcu] at HTK HCL HCB HRW HSX ⊢
          have HCU := Lib.hid hcu
          clear hcu
          have HVB := Lib.hid (getD_all HSB.out k)
          obtain ⟨b3, o3, rfl, hc3⟩ := int_at HSX.out.si hkl
          have HNE : Hid (preI (cu ++ [s.getD k 0]) kind top = preI (rx ++ s.take (k + 1)) kind top) := by show _ = _; rw [HTK.out]
          obtain ⟨bs, hbs⟩ : ∃ bs, preI cu kind top = bs := ⟨_, rfl⟩
          rw [hbs] at HRW HSX ⊢
          have HBS := Lib.hid hbs
          have HC3 := Lib.hid hc3
          clear hbs hc3
          by_cases h4 : kind < 4
          · have d4 : decide (kind < 4) = true := decide_eq_true h4
            have HPT : Hid (bs = textL cu cu.length) := by show _ = _; rw [← HBS.out]; unfold preI; rw [if_pos h4]
            have HNT : Hid (preI (rx ++ s.take (k + 1)) kind top = bs ++ (if 0 < cu.length then [32] else []) ++ itoaI (s.getD k 0)) := by
              show _ = _
              rw [← HNE.out, HPT.out]; unfold preI; rw [if_pos h4, textL_snoc]
            have HBL : Hid (bs.length ≤ 300000) := by
              show _ ≤ _
              rw [HPT.out]
              have h1 := textL_len HCB.out cu.length
              have h2 := HCL.out
              have h3 := HRL.out
              have h5 := HLS.out
              omega
            obtain ⟨v, hv⟩ : ∃ v, s.getD k 0 = v := ⟨_, rfl⟩
            rw [hv] at HC3 HVB HNT
            have HVE := Lib.hid hv
            clear hv
            clear HNE HTK h4
            obtain ⟨sep, hsep⟩ : ∃ sep : List Int, (if 0 < cu.length then [32] else []) = sep := ⟨_, rfl⟩
            rw [hsep] at HNT
            have HSP := Lib.hid hsep
            clear hsep
            obtain ⟨bn, hbn⟩ : ∃ bn, bs.length = bn := ⟨_, rfl⟩
            rw [hbn]
            have HBN := Lib.hid hbn
            clear hbn
            go_upto_if 57 with (fail)
            go_cut [9] (fun so wx => Hid (RwS (w.heap.size + 1) W0 wx (some ⟨b3, o3, none⟩) s (bs ++ sep) so))
            case first =>
              by_cases h0 : 0 < cu.length
              · have h1 : 0 < bs.length := by rw [HPT.out]; exact textL_pos _ _ h0
                rw [HBN.out] at h1
                have d6 : decide ((0 : Int) < (bn : Int)) = true := decide_eq_true (by omega)
                have d6n : 0 < bn := h1
                have HS1 : Hid (sep = [32]) := by show _ = _; rw [← HSP.out, if_pos h0]
                clear h0 h1
                go_wp2_with (at_builtin; refine Ard.wpList_push rfl (.tmp 58) (.tmp 59) _ rfl (w.heap.size + 1) 5 1 1 _ Tryd.underlying22 infoU8 rfl (by omega) (.slice A bn c) bn (bs.map (.int .u8)) rfl (by rw [← HBN.out]; exact HRW.out.own.alloc _) wr.heap.size 1 1 [.int .u8 32] 5 rfl rfl (heap_alloc_new wr _) ?c2 (by omega) ?c3 ?c4 ?c5 _ rfl ?_)
                case c2 => simp [Value.oneCell']
                case c3 => have := HBL.out; have := HBN.out; unfold maxLen; omega
                case c4 => have := HBL.out; have := HBN.out; omega
                case c5 => have := HRW.out.le; simp; omega
                intro g cap w5 hown5 hg5 hat5 _
                rw [← HBN.out] at hown5 hg5 hat5
                have HPE := Lib.hid (push_end HRW.out HSX.out hown5 hg5 hat5)
                clear hown5 hg5 hat5
                go_wp2_with fail
                go_meet
                rw [HS1.out]
                exact ⟨_, _, by rw [List.length_append, HBN.out]; rfl, HPE.out.1, HPE.out.2⟩
              · have h1 : bs.length = 0 := by rw [HPT.out, show cu.length = 0 by omega]; rfl
                rw [HBN.out] at h1
                have d6 : decide ((0 : Int) < (bn : Int)) = false := decide_eq_false (by omega)
                have d6n : ¬ 0 < bn := by omega
                have HS1 : Hid (sep = []) := by show _ = _; rw [← HSP.out, if_neg h0]
                clear h0 h1
                go_wp2_with fail
                go_meet
                rw [HS1.out, List.append_nil]
                exact ⟨_, _, by rw [HBN.out], HRW.out, HSX.out⟩
            obtain ⟨A5, c5, rfl, hrw5, hsx5⟩ := hcut.out
            have HRW5 := Lib.hid hrw5
            have HSX5 := Lib.hid hsx5
            obtain ⟨b3', o3', hA3', hc5⟩ := int_at hsx5.si hkl
            injection hA3' with hA3'
            injection hA3' with z1 z2
            subst z1 z2
            rw [HVE.out] at hc5
            have HLB : Hid ((bs ++ sep).length ≤ 300001) := by
              show _ ≤ _
              have h1 := HBL.out
              rw [List.length_append, ← HSP.out]
              split <;> simp <;> omega
            have HTB : Hid (Lib.TabIs Tryd.prog wc "internal/strconv.uint64pow10" .u64 Lib.pow10Tab) := (HVV.out.below (HB0.out.trans (hrw5.bel.mono (Nat.le_succ _))) (Nat.le_refl _)).tab
            clear hrw5 hsx5 hcut HC3 HRW HSX
            obtain ⟨bs5, hbs5⟩ : ∃ bs5, bs ++ sep = bs5 := ⟨_, rfl⟩
            rw [hbs5] at HRW5 HSX5 HLB HNT ⊢
            clear hbs5
            have hcv := fun (V : World) (t : ByteArray) => Lib.run_convert_string_bytes (P := Tryd.prog) V 9 22 5 t Tryd.underlying9 Tryd.underlying22 Tryd.underlying5
            go_wp2_with fail
            refine (Shf.itoa v (by have := HVB.out; omega) (by have := HVB.out; omega) wc HTB.out).mono ?_
            rintro e w6 ⟨rfl, hb6⟩
            have HRW6 := Lib.hid (HRW5.out.old hb6)
            have HSX6 := Lib.hid (HSX5.out.old hb6)
            have HI : Hid ((Lib.itoa v).length ≤ 21 ∧ (itoaI v).length = (Lib.itoa v).length) := ⟨Lib.itoa_length_le _ (by have := HVB.out; omega) (by have := HVB.out; omega), by unfold itoaI; rw [List.length_map]⟩
            have HB7 := Lib.hid (Lib.bytesWorld_below w6 5 ⟨(Lib.itoa v).toArray⟩)
            have HRW7 := Lib.hid (HRW6.out.old HB7.out)
            have HSX7 := Lib.hid (HSX6.out.old HB7.out)
            have HSL := Lib.hid (OwnM.bytes w6 5 ⟨(Lib.itoa v).toArray⟩ (itoaI v) (by unfold itoaI; rw [List.map_map]; rfl) (by have := HI.out.1; show (Lib.itoa v).toArray.size ≤ _; rw [List.size_toArray]; unfold maxLen; omega)).sl
            clear hb6 hc5 HTB
            go_wp2_with (at_builtin; refine wpList_append_sl _ rfl (.tmp 61) (.tmp 67) _ rfl (w.heap.size + 1) 5 1 1 _ Tryd.underlying22 infoU8 rfl (by omega) (.slice A5 bs5.length c5) bs5.length (bs5.map (.int .u8)) rfl HRW7.out.own _ (Lib.itoa v).length _ ((itoaI v).map (.int .u8)) rfl (by rw [List.length_map, HI.out.2, Nat.mul_one]) HSL.out (ints_oneCell .u8 _) (by have := HI.out; have := HLB.out; unfold maxLen; omega) (by have := HI.out; have := HLB.out; omega) HRW7.out.le ?_)
            intro v8 w8 hown8 hg8 hat8
            obtain ⟨A8, c8, rfl⟩ := own_form hown8
            have HAE := Lib.hid (app_end HRW7.out HSX7.out hown8 (by rw [List.length_append, HI.out.2]) hg8 hat8)
            clear hown8 hg8 hat8
            have eK : wrap64 ((k : Int) + 1) = (k : Int) + 1 := IntWalk.wrap64_in _ (by have := HLS.out; omega)
            have hk1 : k + 1 ≤ s.length := hkl
            have HK1 := Lib.hid hk1
            clear hkl hk hk1
            have HEK := Lib.hid eK
            clear eK
            go_wp2_with fail
            rw [HEK.out]
            refine ⟨⟨k + 1, A8, c8, HK1.out, by go_num, ?_, ?_, ?_⟩, meas HK1.out⟩
            · rw [HNT.out, List.length_append, HI.out.2]
            · rw [HNT.out]; exact HAE.out.1
            · rw [HNT.out]; exact HAE.out.2
          · have d4 : decide (kind < 4) = false := decide_eq_false h4
            by_cases h5 : kind = 4
            · have hs1 : s.length = 1 := by rw [← HSS.out]; exact pxS_four pix h5 _
              have hrx1 : rx.length = x := by rw [← HRX.out]; exact rowS_four pix W h5 y x
              obtain ⟨q, hq⟩ : ∃ q, x / 8 = q := ⟨_, rfl⟩
              obtain ⟨r, hr⟩ : ∃ r, x % 8 = r := ⟨_, rfl⟩
              have hr8 : r < 8 := by rw [← hr]; exact Nat.mod_lt _ (by omega)
              have hxq : x = 8 * q + r := by rw [← hq, ← hr]; omega
              have HQS : Hid (q ≤ 4096) := by show _ ≤ _; omega
              have HCX : Hid (cu.length = 8 * q + r) := by show _ = _; rw [HCL.out]; omega
              have e1 : (x : Int).tmod 8 = (r : Int) := by rw [Int.tmod_eq_emod_of_nonneg (by omega)]; omega
              have e2 : (x : Int) % 8 = (r : Int) := by omega
              have e3 : (x : Int).tdiv 8 = (q : Int) := by rw [Int.tdiv_eq_ediv_of_nonneg (by omega)]; omega
              have e4 : (x : Int) / 8 = (q : Int) := by omega
              have d5 : (kind == 4) = true := by simp [h5]
              have HV1 : Hid (0 ≤ s.getD k 0 ∧ s.getD k 0 ≤ 1) := by
                show _ ∧ _
                refine ⟨HVB.out.1, ?_⟩
                have := smpsI_one (top := top) (r := pix.getD (4 * (y * W + x)) 0) (g := pix.getD (4 * (y * W + x) + 1) 0) (b := pix.getD (4 * (y * W + x) + 2) 0) h5
                have h2 : smpsI kind top (pix.getD (4 * (y * W + x)) 0) (pix.getD (4 * (y * W + x) + 1) 0) (pix.getD (4 * (y * W + x) + 2) 0) = s := HSS.out
                rw [h2] at this
                rw [List.getD_eq_getElem?_getD, List.getElem?_eq_getElem hkl]
                exact this _ (List.getElem_mem hkl)
              have HP8 : Hid (0 ≤ pkTo cu q 8 + s.getD k 0 * 2 ^ (7 - r) ∧ pkTo cu q 8 + s.getD k 0 * 2 ^ (7 - r) < 256 ∧ 0 ≤ s.getD k 0 * 2 ^ (7 - r) ∧ 0 ≤ pkTo cu q 8) := by
                have hcl : cu.length = 8 * q + r := HCX.out
                have hb1 : ∀ z ∈ cu, 0 ≤ z ∧ z ≤ 1 := fun z hz => by
                  rw [← HCU.out] at hz
                  rcases List.mem_append.1 hz with h | h
                  · rw [← HRX.out] at h
                    exact ⟨(rowS_bd HWF.out t1 t2 W y x z h).1, rowS_one h5 W y x z h⟩
                  · have := List.mem_of_mem_take h
                    have h3 : s = smpsI kind top (pix.getD (4 * (y * W + x)) 0) (pix.getD (4 * (y * W + x) + 1) 0) (pix.getD (4 * (y * W + x) + 2) 0) := HSS.out.symm
                    rw [h3] at this
                    exact ⟨(HSB.out z (by rw [h3]; exact this)).1, smpsI_one h5 z this⟩
                have hb2 : ∀ z ∈ cu ++ [s.getD k 0], 0 ≤ z ∧ z ≤ 1 := fun z hz => by
                  rcases List.mem_append.1 hz with h | h
                  · exact hb1 z h
                  · rw [List.mem_singleton] at h; subst h; exact HV1.out
                have h1 := pkTo_bd hb2 q 8 (Nat.le_refl _)
                have h2 := pkTo_bd hb1 q 8 (Nat.le_refl _)
                rw [pkTo_snoc cu (s.getD k 0) hcl hr8] at h1
                exact ⟨h1.1, h1.2.1, Int.mul_nonneg HV1.out.1 (Int.le_of_lt (Int.pow_pos (by omega))), h2.1⟩
              have HB4 : Hid (bs = packL cu ((cu.length + 7) / 8)) := by show _ = _; rw [← HBS.out]; unfold preI; rw [if_neg h4, if_pos h5]
              have HN4 : Hid (preI (rx ++ s.take (k + 1)) kind top = packL cu q ++ [pkTo cu q 8 + s.getD k 0 * 2 ^ (7 - r)]) := by
                show _ = _
                rw [← HNE.out]; unfold preI
                rw [if_neg h4, if_pos h5]
                have hcl : cu.length = 8 * q + r := HCX.out
                by_cases h0 : r = 0
                · subst h0
                  have h1 := packL_snoc0 cu (s.getD k 0) (q := q) hcl
                  have h2 : pkTo cu q 8 = 0 := by
                    have := pkTo_end (l := cu) (b := q) (m := 0) (by omega) 8
                    rw [Nat.zero_add] at this; exact this
                  rw [h1, h2, Int.zero_add, hcl, show (8 * q + 0 + 7) / 8 = q by omega]
                · exact (packL_snoc1 cu (s.getD k 0) hcl (by omega) hr8).1
              have HBN : Hid (bs.length = (8 * q + r + 7) / 8) := by show _ = _; rw [HB4.out, packL_len, HCX.out]
              obtain ⟨v, hv⟩ : ∃ v, s.getD k 0 = v := ⟨_, rfl⟩
              rw [hv] at HC3 HV1 HN4 HP8
              have HVE := Lib.hid hv
              clear hv HNE HTK h4 h5 hs1 hrx1 hq hr hxq
              go_upto_if 74 with (fail)
              go_cut [9] (fun so wx => Hid (RwS (w.heap.size + 1) W0 wx (some ⟨b3, o3, none⟩) s (packL cu q ++ [pkTo cu q 8]) so))
              case first =>
                by_cases h0 : r = 0
                · have d6 : ((r : Int) == 0) = true := by simp [h0]
                  have HQ0 : Hid (bs = packL cu q ∧ pkTo cu q 8 = 0) := by
                    refine ⟨?_, ?_⟩
                    · rw [HB4.out, HCX.out, show (8 * q + r + 7) / 8 = q by omega]
                    · have := pkTo_end (l := cu) (b := q) (m := 0) (by rw [HCX.out]; omega) 8
                      rw [Nat.zero_add] at this; exact this
                  have HQL : Hid (bs.length = q) := by show _ = _; rw [HQ0.out.1, packL_len]
                  have HRS : Hid (q ≤ 4096) := by show _ ≤ _; have := HCX.out; have := HCL.out; have := HRL.out; have := HLS.out; omega
                  obtain ⟨bn, hbn⟩ : ∃ bn, bs.length = bn := ⟨_, rfl⟩
                  rw [hbn] at HQL
                  rw [hbn]
                  have HBN2 := Lib.hid hbn
                  clear hbn
                  go_wp2_with (at_builtin; refine Ard.wpList_push rfl (.tmp 75) (.tmp 76) _ rfl (w.heap.size + 1) 5 1 1 _ Tryd.underlying22 infoU8 rfl (by omega) (.slice A bn c) bn (bs.map (.int .u8)) rfl (by rw [← HBN2.out]; exact HRW.out.own.alloc _) wr.heap.size 1 1 [.int .u8 0] 5 rfl rfl (heap_alloc_new wr _) ?c2 (by omega) ?c3 ?c4 ?c5 _ rfl ?_)
                  case c2 => simp [Value.oneCell']
                  case c3 => have := HQL.out; have := HRS.out; unfold maxLen; omega
                  case c4 => have := HQL.out; have := HRS.out; omega
                  case c5 => have := HRW.out.le; simp; omega
                  intro g cap w5 hown5 hg5 hat5 _
                  rw [← HBN2.out] at hown5 hg5 hat5
                  have HPE := Lib.hid (push_end HRW.out HSX.out hown5 hg5 hat5)
                  clear hown5 hg5 hat5
                  go_wp2_with fail
                  go_meet
                  rw [HQ0.out.2, ← HQ0.out.1]
                  exact ⟨_, _, by rw [List.length_append, HBN2.out]; rfl, HPE.out.1, HPE.out.2⟩
                · have d6 : ((r : Int) == 0) = false := by simp; omega
                  have HQ0 : Hid (bs = packL cu q ++ [pkTo cu q 8]) := by
                    show _ = _
                    rw [HB4.out, HCX.out, show (8 * q + r + 7) / 8 = q + 1 by omega, packL_succ]
                  obtain ⟨bn, hbn⟩ : ∃ bn, bs.length = bn := ⟨_, rfl⟩
                  rw [hbn]
                  have HBN2 := Lib.hid hbn
                  clear hbn
                  go_wp2_with fail
                  go_meet
                  rw [← HQ0.out]
                  exact ⟨_, _, by rw [HBN2.out], HRW.out, HSX.out⟩
              obtain ⟨A5, c5, rfl, hrw5, hsx5⟩ := hcut.out
              obtain ⟨b3', o3', hA3', hc5⟩ := int_at hsx5.si hkl
              injection hA3' with hA3'
              injection hA3' with z1 z2
              subst z1 z2
              rw [HVE.out] at hc5
              clear HC3 HRW HSX hcut
              have hl5 : (packL cu q ++ [pkTo cu q 8]).length = q + 1 := by rw [List.length_append, packL_len]; rfl
              obtain ⟨pk, hpk⟩ : ∃ pk, pkTo cu q 8 = pk := ⟨_, rfl⟩
              rw [hpk] at hrw5 hsx5 HP8 HN4 hl5 ⊢
              obtain ⟨g, cap, hv5, hbg, hgl⟩ := World.ownsRow.form hrw5.own (by rw [hl5]; omega)
              injection hv5 with z1 z2 z3
              subst z1 z3
              have hcq : wc.cell? ⟨g, q, none⟩ = some (.int .u8 pk) := by
                obtain ⟨b', o', e', hc'⟩ := Sl.of_own hrw5.own q (.int .u8 pk) (by rw [List.getElem?_map, List.getElem?_append_right (by rw [packL_len]; omega), packL_len, Nat.sub_self]; rfl)
                injection e' with e'
                injection e' with y1 y2
                subst y1 y2
                rwa [Nat.zero_add] at hc'
              have hfq : wc.frozen? ⟨g, q, none⟩ = false := by
                rcases hrw5.own.2 with ⟨e, -⟩ | ⟨g', cap', cur, e, -, hh, -⟩
                · cases e
                · injection e with e
                  injection e with e
                  injection e with e
                  subst e
                  simp [World.frozen?, hh]
              have HRW5 := Lib.hid hrw5
              have HSX5 := Lib.hid hsx5
              have HL5 := Lib.hid hl5
              rw [hl5]
              have HPK := Lib.hid hpk
              clear hrw5 hsx5 hl5 hpk z2
              have i0 : (0 : Int) ≤ (q : Int) := by omega
              have i1 : (q : Int) < ((q + 1 : Nat) : Int) := by omega
              have i2 : (q : Int) < (q : Int) + 1 := by omega
              have j0 : (0 : Int) ≤ (k : Int) := by omega
              have j1 : (k : Int) < (s.length : Int) := by omega
              go_wp2_with fail
              refine wp_region_still_tail 17 (by kernel_rfl) (by kernel_rfl) ?_
              simp only [List.take_succ_cons, List.take_zero, List.drop_succ_cons, List.drop_zero]
              change wpStill _ _ wc.drew (fun a' => wpList _ _ _ _ a' wc.drew) _ _
              have hc5d : wc.drew.cell? ⟨b3, o3 + k, none⟩ = some (.int .i64 v) := hc5
              have hcqd : wc.drew.cell? ⟨g, q, none⟩ = some (.int .u8 pk) := hcq
              have hfqd : wc.drew.frozen? ⟨g, q, none⟩ = false := hfq
              have HRWd := Lib.hid (HRW5.out.old (Below.refl _ wc).drew)
              have HSXd := Lib.hid (HSX5.out.old (Below.refl _ wc).drew)
              have v0 : IntKind.i64.wrap (q : Int) = (q : Int) := IntWalk.i64_in _ (by have := HQS.out; omega)
              have v1 : IntKind.i64.wrap (r : Int) = (r : Int) := IntWalk.i64_in _ (by omega)
              have v2 : IntKind.i64.wrap (7 - (r : Int)) = 7 - (r : Int) := IntWalk.i64_in _ (by omega)
              have v3 : IntKind.u64.wrap (7 - (r : Int)) = 7 - (r : Int) := u64_in (by omega)
              clear hc5 hcq hfq HRW5 HSX5
              generalize wc.drew = Wd at hc5d hcqd hfqd HRWd HSXd ⊢
              repeat still_step
              refine wpStill_nil ?_
              obtain ⟨z, hz⟩ : ∃ z, v * 2 ^ (7 - r) = z := ⟨_, rfl⟩
              rw [hz] at HP8 HN4
              rw [hz]
              have HZ := HP8.out
              have v4 : IntKind.i64.wrap z = z := IntWalk.i64_in _ (by omega)
              have v5 : IntKind.u8.wrap z = z := u8_in (by omega)
              have v6 : IntKind.u8.wrap (pk + z) = pk + z := u8_in (by omega)
              rw [v4, v5, v6]
              have HK1 : Hid (k + 1 ≤ s.length) := hkl
              have HEK : Hid (wrap64 ((k : Int) + 1) = (k : Int) + 1) := IntWalk.wrap64_in _ (by have := HLS.out; omega)
              have HGS : Hid (Rw (w.heap.size + 1) W0 (Wd.setCell ⟨g, q, none⟩ (.int .u8 (pk + z))) (some ⟨g, 0, none⟩) c5 (packL cu q ++ [pk + z])) := by
                refine ⟨?_, HRWd.out.bel.setCell (p := ⟨g, q, none⟩) hbg _, by have := HRWd.out.le; simpa [World.setCell] using this⟩
                have := own_setB (i := q) (v := pk + z) HRWd.out.own
                rw [set_last _ _ _ (packL_len cu q)] at this
                rw [List.length_append, List.length_singleton] at this ⊢
                exact this
              have HSS2 : Hid (Sx (Wd.setCell ⟨g, q, none⟩ (.int .u8 (pk + z))) (some ⟨b3, o3, none⟩) s (.slice (some ⟨g, 0, none⟩) (packL cu q ++ [pk + z]).length c5)) :=
                (HSXd.out.app (v' := .slice (some ⟨g, 0, none⟩) (packL cu q ++ [pk]).length c5) (w' := Wd.setCell ⟨g, q, none⟩ (.int .u8 (pk + z))) ⟨rfl, rfl, rfl, by simp [World.setCell], fun i _ hi => Below.heap_setCell Wd ⟨g, q, none⟩ (.int .u8 (pk + z)) i (fun e => hi (by rw [e]; rfl))⟩ (.inl rfl)).len rfl
              clear v0 v1 v2 v3 v4 v5 v6 e1 e2 e3 e4 hz HZ hkl hk
              go_wp2_with fail
              rw [HEK.out]
              refine ⟨⟨k + 1, some ⟨g, 0, none⟩, c5, HK1.out, by go_num, ?_, ?_, ?_⟩, meas HK1.out⟩
              · rw [HN4.out, List.length_append, packL_len]; rfl
              · rw [HN4.out]; exact HGS.out
              · rw [HN4.out]; exact HSS2.out
            · have d5 : (kind == 4) = false := by simp [h5]
              have HBV : Hid (bs = valsL cu top cu.length) := by show _ = _; rw [← HBS.out]; unfold preI; rw [if_neg h4, if_neg h5]
              have HNV : Hid (preI (rx ++ s.take (k + 1)) kind top = bs ++ (if 255 < top then [s.getD k 0 / 256] else []) ++ [s.getD k 0 % 256]) := by
                show _ = _
                rw [← HNE.out, HBV.out]; unfold preI; rw [if_neg h4, if_neg h5, valsL_snoc]
              have HBL : Hid (bs.length ≤ 30000) := by
                show _ ≤ _
                rw [HBV.out]
                have h1 := valsL_len cu top cu.length
                have h2 := HCL.out
                have h3 := HRL.out
                have h5 := HLS.out
                omega
              obtain ⟨v, hv⟩ : ∃ v, s.getD k 0 = v := ⟨_, rfl⟩
              rw [hv] at HC3 HVB HNV
              have HVE := Lib.hid hv
              obtain ⟨sep, hsep⟩ : ∃ sep : List Int, (if 255 < top then [v / 256] else []) = sep := ⟨_, rfl⟩
              rw [hsep] at HNV
              have HSP := Lib.hid hsep
              obtain ⟨bn, hbn⟩ : ∃ bn, bs.length = bn := ⟨_, rfl⟩
              rw [hbn]
              have HBN := Lib.hid hbn
              have j0 : (0 : Int) ≤ (k : Int) := by omega
              have j1 : (k : Int) < (s.length : Int) := by omega
              have HKL : Hid (k < s.length) := hkl
              clear hv hsep hbn HNE HTK h4 h5
              go_upto_if 33 with (fail)
              go_cut [9] (fun so wx => Hid (RwS (w.heap.size + 1) W0 wx (some ⟨b3, o3, none⟩) s (bs ++ sep) so))
              case first =>
                by_cases h0 : 255 < top
                · have d6 : decide (255 < top) = true := decide_eq_true h0
                  have HS1 : Hid (sep = [v / 256]) := by show _ = _; rw [← HSP.out, if_pos h0]
                  have hq1 : 0 ≤ v / 256 ∧ v / 256 < 256 := by have := HVB.out; omega
                  have v0 : IntKind.u8.wrap (v / 256) = v / 256 := u8_in hq1
                  have v2 : IntKind.i64.wrap (v / 256) = v / 256 := IntWalk.i64_in _ (by omega)
                  have v1 : v.tdiv 256 = v / 256 := by rw [Int.tdiv_eq_ediv_of_nonneg (by have := HVB.out; omega)]
                  have hc3 := HC3.out
                  clear hkl
                  go_wp2_with (at_builtin; refine Ard.wpList_push rfl (.tmp 34) (.tmp 41) _ rfl (w.heap.size + 1) 5 1 1 _ Tryd.underlying22 infoU8 rfl (by omega) (.slice A bn c) bn (bs.map (.int .u8)) rfl (by rw [← HBN.out]; exact HRW.out.own.alloc _) wr.heap.size 1 1 [.int .u8 (v / 256)] 5 rfl rfl (heap_alloc_new wr _) ?c2 (by omega) ?c3 ?c4 ?c5 _ rfl ?_)
                  case c2 => simp [Value.oneCell']
                  case c3 => have := HBL.out; have := HBN.out; unfold maxLen; omega
                  case c4 => have := HBL.out; have := HBN.out; omega
                  case c5 => have := HRW.out.le; simp; omega
                  intro g cap w5 hown5 hg5 hat5 _
                  rw [← HBN.out] at hown5 hg5 hat5
                  have HPE := Lib.hid (push_end HRW.out HSX.out hown5 hg5 hat5)
                  clear hown5 hg5 hat5
                  go_wp2_with fail
                  go_meet
                  rw [HS1.out]
                  exact ⟨_, _, by rw [List.length_append, HBN.out]; rfl, HPE.out.1, HPE.out.2⟩
                · have d6 : decide (255 < top) = false := decide_eq_false h0
                  have HS1 : Hid (sep = []) := by show _ = _; rw [← HSP.out, if_neg h0]
                  go_wp2_with fail
                  go_meet
                  rw [HS1.out, List.append_nil]
                  exact ⟨_, _, by rw [HBN.out], HRW.out, HSX.out⟩
              obtain ⟨A5, c5, rfl, hrw5, hsx5⟩ := hcut.out
              have HRW5 := Lib.hid hrw5
              have HSX5 := Lib.hid hsx5
              obtain ⟨b3', o3', hA3', hc5⟩ := int_at hsx5.si HKL.out
              injection hA3' with hA3'
              injection hA3' with z1 z2
              subst z1 z2
              rw [HVE.out] at hc5
              have HLB : Hid ((bs ++ sep).length ≤ 30001) := by
                show _ ≤ _
                have h1 := HBL.out
                rw [List.length_append, ← HSP.out]
                split <;> simp <;> omega
              clear hrw5 hsx5 hcut HC3 HRW HSX
              obtain ⟨bs5, hbs5⟩ : ∃ bs5, bs ++ sep = bs5 := ⟨_, rfl⟩
              rw [hbs5] at HRW5 HSX5 HLB HNV ⊢
              clear hbs5
              obtain ⟨bn5, hbn5⟩ : ∃ bn, bs5.length = bn := ⟨_, rfl⟩
              rw [hbn5]
              have HBN5 := Lib.hid hbn5
              clear hbn5
              have v0 : IntKind.u8.wrap (v % 256) = v % 256 := u8_in (by omega)
              have v2 : IntKind.i64.wrap (v % 256) = v % 256 := IntWalk.i64_in _ (by omega)
              have v1 : v.tmod 256 = v % 256 := by rw [Int.tmod_eq_emod_of_nonneg (by have := HVB.out; omega)]
              have HK1 : Hid (k + 1 ≤ s.length) := HKL.out
              have HEK : Hid (wrap64 ((k : Int) + 1) = (k : Int) + 1) := IntWalk.wrap64_in _ (by have := HLS.out; omega)
              clear hkl hk
              go_wp2_with (at_builtin; refine Ard.wpList_push rfl (.tmp 43) (.tmp 50) _ rfl (w.heap.size + 1) 5 1 1 _ Tryd.underlying22 infoU8 rfl (by omega) (.slice A5 bn5 c5) bn5 (bs5.map (.int .u8)) rfl (by rw [← HBN5.out]; exact HRW5.out.own.alloc _) wc.heap.size 1 1 [.int .u8 (v % 256)] 5 rfl rfl (heap_alloc_new wc _) ?c2 (by omega) ?c3 ?c4 ?c5 _ rfl ?_)
              case c2 => simp [Value.oneCell']
              case c3 => have := HLB.out; have := HBN5.out; unfold maxLen; omega
              case c4 => have := HLB.out; have := HBN5.out; omega
              case c5 => have := HRW5.out.le; simp; omega
              intro g cap w6 hown6 hg6 hat6 _
              rw [← HBN5.out] at hown6 hg6 hat6
              have HPE := Lib.hid (push_end HRW5.out HSX5.out hown6 hg6 hat6)
              clear hown6 hg6 hat6
              go_wp2_with fail
              rw [HEK.out]
              refine ⟨⟨k + 1, some ⟨g, 0, none⟩, cap, HK1.out, by go_num, ?_, ?_, ?_⟩, meas HK1.out⟩
              · rw [HNV.out, List.length_append, HBN5.out]; rfl
              · rw [HNV.out]; exact HPE.out.1
              · rw [HNV.out]; exact HPE.out.2
        · obtain rfl : k = s.length := by omega
          have d2 : decide ((s.length : Int) < (s.length : Int)) = false := by simp
          have HE : Hid (rx ++ s.take s.length = rowS pix W kind top y (x + 1)) := by show _ = _; rw [← HRX.out]; exact rowS_take pix W kind top y x HSS.out
          rw [HE.out] at HRW ⊢
          go_wp2_with fail
          refine ⟨⟨x + 1, A, c, by omega, by go_num, rfl, HRW⟩, ?_⟩
          simp [intOf]; omega
    · obtain rfl : x = W := by omega
      have d1 : decide ((x : Int) < (x : Int)) = false := by simp
      obtain ⟨bs, hbs⟩ : ∃ bs, preI (rowS pix x kind top y x) kind top = bs := ⟨_, rfl⟩
      have HRO : Hid (rowB pix x kind top y = bs ++ (if kind < 4 then [10] else [])) := by show _ = _; unfold rowB; rw [lineI_pre, hbs]
      have HBL : Hid (bs.length ≤ 300000) := by
        show _ ≤ _
        have h1 := rowB_len HWF.out (kind := kind) (y := y) t1 t2 x
        rw [HRO.out, List.length_append] at h1
        omega
      rw [hbs] at HRW ⊢
      have HBB : Hid (∀ V, Below (w.heap.size + 1) W0 V → Below w.heap.size w V) := fun V h => HB0.out.trans (h.mono (Nat.le_succ _))
      clear hbs
      by_cases h4 : kind < 4
      · have d4 : decide (kind < 4) = true := decide_eq_true h4
        have HR4 : Hid (rowB pix x kind top y = bs ++ [10]) := by show _ = _; rw [HRO.out, if_pos h4]
        obtain ⟨bn, hbn⟩ : ∃ bn, bs.length = bn := ⟨_, rfl⟩
        rw [hbn]
        have HBN := Lib.hid hbn
        clear hbn
        go_wp2_with (at_builtin; refine Ard.wpList_push rfl (.tmp 97) (.tmp 98) _ rfl (w.heap.size + 1) 5 1 1 _ Tryd.underlying22 infoU8 rfl (by omega) (.slice A bn c) bn (bs.map (.int .u8)) rfl (by rw [← HBN.out]; exact HRW.out.own.alloc _) wr.heap.size 1 1 [.int .u8 10] 5 rfl rfl (heap_alloc_new wr _) ?c2 (by omega) ?c3 ?c4 ?c5 _ rfl ?_)
        case c2 => simp [Value.oneCell']
        case c3 => have := HBL.out; have := HBN.out; unfold maxLen; omega
        case c4 => have := HBL.out; have := HBN.out; omega
        case c5 => have := HRW.out.le; simp; omega
        intro g cap w5 hown5 hg5 hat5 _
        have HH := Lib.hid (And.intro hown5 hg5)
        clear hown5 hg5 hat5
        go_wp2_with fail
        go_ret
        rw [HR4.out]
        refine ⟨HBB.out _ ((HRW.out.bel.alloc HRW.out.le _).grown HH.out.2 (by have := HRW.out.le; simp; omega) (fun k e => by rw [← HBN.out] at e; exact (HRW.out.own.lt k e).1)), some ⟨g, 0, none⟩, cap, by rw [List.length_append, HBN.out]; rfl, ?_⟩
        have := own_mono HH.out.1 (Nat.le_succ _)
        rw [List.length_append, HBN.out, List.map_append]
        exact this
      · have d4 : decide (kind < 4) = false := decide_eq_false h4
        have HR4 : Hid (rowB pix x kind top y = bs) := by show _ = _; rw [HRO.out, if_neg h4, List.append_nil]
        go_wp2_with fail
        go_ret
        rw [HR4.out]
        exact ⟨HBB.out _ HRW.out.bel, A, c, rfl, own_mono HRW.out.own (Nat.le_succ _)⟩
end Go.Proofs.YtbmlopklhgladaaDoor.Pnm
