/-
  Memory: what writing into one's own rows leaves as it was.
-/
import Derived.Test.YtoofgblmpjndjaaGreatDoorZG21
import Derived.Deep.MidRow
set_option linter.unusedVariables false
set_option linter.unusedSimpArgs false
namespace Go.Proofs.YtoofgblmpjndjaaGreatDoor.Scr
open Go.RowKit K Go.Lib Go.Shelf

def Rm (W : World) (ba bb : Nat) (T : TypeId) (A : Option Addr) (n : Nat) : Prop :=
 n = 0 ∨ ∃ g cs, A = some ⟨g, 0, none⟩ ∧ ba ≤ g ∧ g < bb ∧ W.heap[g]? = some (.cells cs T (0, 0)) ∧ n ≤ cs.size
theorem Rm.of_own {W : World} {ba bb n c : Nat} {T : TypeId} {A : Option Addr} {xs : List Value} (h : W.ownsRow ba T 1 (.slice A n c) n xs) (hb : W.heap.size ≤ bb) : Rm W ba bb T A n := by
 rcases h.2 with ⟨e, h0⟩ | ⟨g, cap, cur, e, h1, h2, h3, h4, h5, h6⟩
 ·exact .inl h0
 ·injection e with e1 e2 e3
  subst e1
  exact .inr ⟨g, cur, rfl, h1, Nat.lt_of_lt_of_le (Array.getElem?_eq_some_iff.1 h2).1 hb, h2, by omega⟩
theorem Rm.frame {W W' : World} {ba bb n : Nat} {T : TypeId} {A : Option Addr} (h : Rm W ba bb T A n) (hf : ∀ g, ba ≤ g → g < bb → W'.heap[g]? = W.heap[g]?) : Rm W' ba bb T A n := by
 rcases h with h | ⟨g, cs, e, h1, h2, h3, h4⟩
 ·exact .inl h
 ·exact .inr ⟨g, cs, e, h1, h2, (hf g h1 h2).trans h3, h4⟩
theorem Rm.cell {W : World} {ba bb n j : Nat} {T : TypeId} {A : Option Addr} (h : Rm W ba bb T A n) (hj : j < n) : ∃ g cs v, A = some ⟨g, 0, none⟩ ∧ ba ≤ g ∧ g < bb ∧ W.heap[g]? = some (.cells cs T (0, 0)) ∧ W.cell? ⟨g, j, none⟩ = some v ∧ W.frozen? ⟨g, j, none⟩ = false := by
 rcases h with h | ⟨g, cs, e, h1, h2, h3, h4⟩
 ·omega
 ·exact ⟨g, cs, cs[j]'(by omega), e, h1, h2, h3, (Ard.row_cell h3 j).trans (Array.getElem?_eq_getElem (by omega)), Ard.row_frozen h3 j⟩
theorem Rm.set {W : World} {ba bb n k g : Nat} {T T2 : TypeId} {A : Option Addr} {cs : Array Value} (h : Rm W ba bb T A n) (hg : W.heap[g]? = some (.cells cs T2 (0, 0))) (v : Value) : Rm (W.setCell ⟨g, k, none⟩ v) ba bb T A n := by
 rcases h with h | ⟨q, cq, e, h1, h2, h3, h4⟩
 ·exact .inl h
 ·by_cases hq : q = g
  ·subst hq
   rw [h3] at hg
   injection hg with hg
   injection hg with e1 e2 e3
   subst e1 e2
   exact .inr ⟨q, cq.setIfInBounds k v, e, h1, h2, heap_setCell_same W q k _ _ v h3, by rw [Array.size_setIfInBounds]; exact h4⟩
  ·exact .inr ⟨q, cq, e, h1, h2, (heap_setCell_other W ⟨g, k, none⟩ q v hq).trans h3, h4⟩
structure OA (Va Vb W : World) (ba bb : Nat) (A : Option Addr) (n : Nat) (R : List SRow) (i : Nat) : Prop where
 low : Below ba Va W
 high : ∀ g, bb ≤ g → W.heap[g]? = Vb.heap[g]?
 sz : W.heap.size = Vb.heap.size
 len : R.length = n
 row : n = 0 ∨ ∃ g cs, A = some ⟨g, 0, none⟩ ∧ ba ≤ g ∧ g < bb ∧ W.heap[g]? = some (.cells cs 37 (0, 0)) ∧ n * 6 ≤ cs.size ∧ ∀ j r q v, i ≤ j → R[j]? = some r → q < 6 → r.cells.toList[q]? = some v → cs[j * 6 + q]? = some v
 rooms : ∀ r ∈ R, Rm W ba bb 9 r.A r.n ∧ Rm W ba bb 3 r.A2 r.m
theorem OA.start {Va V Vb : World} {A : Option Addr} {n c : Nat} {R : List SRow} (hb : Below Va.heap.size Va V) (h : TO V Va.heap.size (.slice A n c) n R) (hb2 : Below V.heap.size V Vb) : OA Va Vb Vb Va.heap.size V.heap.size A n R 0 := by
 refine ⟨hb.trans (hb2.mono hb.size), fun g _ => rfl, rfl, h.2.1, ?_, fun r hr => ⟨Rm.of_own (own_below (h.2.2 r hr).1 hb2) (by
  exact Nat.le_refl _) |> fun x => ?_, ?_⟩⟩
 ·rcases h.1.2 with ⟨e, h0⟩ | ⟨g, cap, cur, e, h1, h2, h3, h4, h5, h6⟩
  ·exact .inl h0
  ·injection e with e1 e2 e3
   subst e1
   refine .inr ⟨g, cur, rfl, h1, (Array.getElem?_eq_some_iff.1 h2).1, (hb2.block g (Array.getElem?_eq_some_iff.1 h2).1).trans h2, by rw [h5]; exact Nat.mul_le_mul_right 6 (e3 ▸ h3), fun j r q v _ hr hq hv => ?_⟩
   have h7 : (R.flatMap fun r => r.cells.toList)[j * 6 + q]? = some v := by rw [flat_at hr (fun x => rfl) hq]; exact hv
   rw [← h6, List.getElem?_take] at h7
   split at h7
   ·rw [Array.getElem?_toList] at h7
    exact h7
   ·cases h7
 ·exact (Rm.of_own (h.2.2 r hr).1 (Nat.le_refl _)).frame (fun g _ hg => hb2.block g hg)
 ·exact (Rm.of_own (h.2.2 r hr).2 (Nat.le_refl _)).frame (fun g _ hg => hb2.block g hg)
section
variable {Va Vb W : World} {ba bb : Nat} {A : Option Addr} {n i : Nat} {R : List SRow}
theorem low_set {Va W : World} {ba g k : Nat} (h : Below ba Va W) (hg : ba ≤ g) (v : Value) : Below ba Va (W.setCell ⟨g, k, none⟩ v) := h.setCell (p := ⟨g, k, none⟩) hg _
theorem OA.store {g k : Nat} {cs : Array Value} {T : TypeId} (h : OA Va Vb W ba bb A n R i) (hg : W.heap[g]? = some (.cells cs T (0, 0))) (hT : T ≠ 37) (h1 : ba ≤ g) (h2 : g < bb) (v : Value) : OA Va Vb (W.setCell ⟨g, k, none⟩ v) ba bb A n R i := by
 refine ⟨low_set h.low h1 v, fun q hq => (heap_setCell_other W ⟨g, k, none⟩ q v (by show q ≠ g; omega)).trans (h.high q hq), by rw [World.size_setCell]; exact h.sz, h.len, ?_, fun r hr => ⟨(h.rooms r hr).1.set hg v, (h.rooms r hr).2.set hg v⟩⟩
 rcases h.row with h0 | ⟨q, cq, e, h3, h4, h5, h6⟩
 ·exact .inl h0
 ·refine .inr ⟨q, cq, e, h3, h4, (heap_setCell_other W ⟨g, k, none⟩ q v ?_).trans h5, h6⟩
  intro e2
  have e3 : q = g := e2
  subst e3
  rw [hg] at h5
  injection h5 with h5
  injection h5 with _ h5
  exact hT h5
theorem OA.wipe {g k : Nat} (h : OA Va Vb W ba bb A n R i) (hA : A = some ⟨g, 0, none⟩) (hn : 0 < n) (hk : k < i * 6) (v : Value) : OA Va Vb (W.setCell ⟨g, k, none⟩ v) ba bb A n R i := by
 rcases h.row with h0 | ⟨q, cq, e, h3, h4, h5, h6, h7⟩
 ·omega
 rw [hA] at e
 injection e with e
 injection e with e
 subst e
 refine ⟨low_set h.low h3 v, fun q hq => (heap_setCell_other W ⟨g, k, none⟩ q v (by show q ≠ g; omega)).trans (h.high q hq), by rw [World.size_setCell]; exact h.sz, h.len, .inr ⟨g, cq.setIfInBounds k v, hA, h3, h4, heap_setCell_same W g k _ _ v h5, by rw [Array.size_setIfInBounds]; exact h6, fun j r q u hj hr hq hu => ?_⟩, fun r hr => ⟨(h.rooms r hr).1.set h5 v, (h.rooms r hr).2.set h5 v⟩⟩
 have h8 := h7 j r q u hj hr hq hu
 rw [Array.getElem?_setIfInBounds]
 have h9 : i * 6 ≤ j * 6 := Nat.mul_le_mul_right 6 hj
 rw [if_neg (by omega)]
 exact h8
theorem OA.next (h : OA Va Vb W ba bb A n R i) : OA Va Vb W ba bb A n R (i + 1) :=
 ⟨h.low, h.high, h.sz, h.len, h.row.imp id fun ⟨g, cs, e, h1, h2, h3, h4, h5⟩ => ⟨g, cs, e, h1, h2, h3, h4, fun j r q v hj => h5 j r q v (by omega)⟩, h.rooms⟩
theorem OA.at' (h : OA Va Vb W ba bb A n R i) (hi : i < n) : ∃ g r, A = some ⟨g, 0, none⟩ ∧ R[i]? = some r ∧ (∀ q v, q < 6 → r.cells.toList[q]? = some v → W.cell? ⟨g, i * 6 + q, none⟩ = some v) ∧ (∀ k, W.frozen? ⟨g, k, none⟩ = false) ∧ (∀ k, k < n * 6 → ∃ v, W.cell? ⟨g, k, none⟩ = some v) := by
 rcases h.row with h0 | ⟨g, cs, e, h1, h2, h3, h4, h5⟩
 ·omega
 have hr : i < R.length := by rw [h.len]; exact hi
 refine ⟨g, R[i], e, List.getElem?_eq_getElem hr, fun q v hq hv => (Ard.row_cell h3 _).trans (h5 i R[i] q v (Nat.le_refl _) (List.getElem?_eq_getElem hr) hq hv), fun k => Ard.row_frozen h3 k, fun k hk => ⟨cs[k]'(by omega), (Ard.row_cell h3 k).trans (Array.getElem?_eq_getElem (by omega))⟩⟩
theorem OA.cells (h : OA Va Vb W ba bb A n R i) (hi : i < n) {g : Nat} {r : SRow} (hA : A = some ⟨g, 0, none⟩) (hr : R[i]? = some r) : ∀ q v, q < 6 → r.cells.toList[q]? = some v → W.cell? ⟨g, i * 6 + q, none⟩ = some v := by
 obtain ⟨g2, r2, e, e2, h2, -, -⟩ := h.at' hi
 rw [hA] at e
 injection e with e
 injection e with e
 subst e
 rw [hr] at e2
 injection e2 with e2
 subst e2
 exact h2
theorem OA.there (h : OA Va Vb W ba bb A n R i) (hi : i < n) {g : Nat} (hA : A = some ⟨g, 0, none⟩) : W.there g (i * 6) 6 := fun j hj => by
 obtain ⟨g2, r, e, -, -, h2, h3⟩ := h.at' hi
 rw [hA] at e
 injection e with e
 injection e with e
 subst e
 obtain ⟨v, hv⟩ := h3 (i * 6 + j) (by omega)
 exact ⟨by rw [hv]; rfl, h2 _⟩
theorem OA.wipeAll {g : Nat} (h : OA Va Vb W ba bb A n R i) (hi : i < n) (hA : A = some ⟨g, 0, none⟩) : OA Va Vb (W.setCells g (i * 6) st0.toList) ba bb A n R (i + 1) := by
 have h0 := h.next
 have h1 := h0.wipe (k := i * 6) hA (by omega) (by omega) (.int .i64 0)
 have h2 := h1.wipe (k := i * 6 + 1) hA (by omega) (by omega) (.string ⟨#[]⟩)
 have h3 := h2.wipe (k := i * 6 + 1 + 1) hA (by omega) (by omega) (.string ⟨#[]⟩)
 have h4 := h3.wipe (k := i * 6 + 1 + 1 + 1) hA (by omega) (by omega) (.slice none 0 0)
 have h5 := h4.wipe (k := i * 6 + 1 + 1 + 1 + 1) hA (by omega) (by omega) (.string ⟨#[]⟩)
 exact h5.wipe (k := i * 6 + 1 + 1 + 1 + 1 + 1) hA (by omega) (by omega) (.slice none 0 0)
theorem OA.keeps {A2 : Option Addr} {k c : Nat} {R2 : List SRow} (h : OA Va Vb W ba bb A n R i) (h2 : TO Vb bb (.slice A2 k c) k R2) : TO W bb (.slice A2 k c) k R2 :=
 ⟨own_frame h2.1 (fun g hg => h.high g (h2.1.lt g hg).1), h2.2.1, fun r hr => ⟨own_frame (h2.2.2 r hr).1 (fun g hg => h.high g ((h2.2.2 r hr).1.lt g hg).1), own_frame (h2.2.2 r hr).2 (fun g hg => h.high g ((h2.2.2 r hr).2.lt g hg).1)⟩⟩
end
end Go.Proofs.YtoofgblmpjndjaaGreatDoor.Scr
