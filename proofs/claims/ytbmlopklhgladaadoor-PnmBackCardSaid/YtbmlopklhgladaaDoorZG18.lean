/-
  A statement 'x, e := F(.., ints(..), own(m))' draws its order, and the making of x's block floats: lemmas that tell of every such world.
-/
import Derived.Test.YtbmlopklhgladaaDoorZG5
set_option linter.unusedVariables false
set_option linter.unusedSimpArgs false
namespace Go.Proofs.YtbmlopklhgladaaDoor.Ard
open Go.RowKit K

section
variable {w V V2 : World} {b g : Nat} {x o : Obj} {k : IntKind} {A : Option Addr} {n : Nat} {l : List Int}
theorem bel_al (h : Below w.heap.size w V) (o : Obj) : Below w.heap.size w (V.alloc o) := h.alloc h.size o
theorem bel_dr (h : Below w.heap.size w V) : Below w.heap.size w V.drew := h.drew
theorem bel_tr (h : Below w.heap.size w V) (k : Below V.heap.size V V2) : Below w.heap.size w V2 := h.trans (k.mono h.size)
theorem row_al (h : w.heap[b]? = some x) : (w.alloc o).heap[b]? = some x := heap_alloc_old _ _ h
theorem row_dr (h : w.heap[b]? = some x) : w.drew.heap[b]? = some x := h
theorem row_new (hs : w.heap.size = g) : (w.alloc o).heap[g]? = some o := by rw [← hs]; exact heap_alloc_new w o
theorem row_tr (h : V.heap[b]? = some x) (k : Below V.heap.size V V2) : V2.heap[b]? = some x := (k.block _ (Array.getElem?_eq_some_iff.1 h).1).trans h
theorem si_dr (h : SI w k A n l) : SI w.drew k A n l := h.below (Below.refl _ _).drew (Nat.le_refl _)
theorem si_lit {m : Int} {T : TypeId} (hs : w.heap.size = g) : SI (w.alloc (.cells #[.int .i64 m] T)) .i64 (some ⟨g, 0, none⟩) 1 [m] := by
  rw [← hs]; exact SI.lit0 w .i64 [m] T (by show 1 * 8 ≤ _; omega)
theorem si_tr (h : SI V k A n l) (hb : Below V.heap.size V V2) : SI V2 k A n l := h.below hb (Nat.le_refl _)
theorem zi_cells {T : TypeId} (h : w.heap[g]? = some (.cells zimg T (0, 0))) : w.cell? ⟨g, 0, none⟩ = some (.int .i64 0) ∧ w.cell? ⟨g, 1, none⟩ = some (.int .i64 0) ∧ w.cell? ⟨g, 2, none⟩ = some (.slice none 0 0) ∧
    w.frozen? ⟨g, 0, none⟩ = false ∧ w.frozen? ⟨g, 1, none⟩ = false ∧ w.frozen? ⟨g, 2, none⟩ = false :=
  ⟨row_cell h 0, row_cell h 1, row_cell h 2, row_frozen h 0, row_frozen h 1, row_frozen h 2⟩
theorem img_cells {T : TypeId} {a b c : Value} (h : w.heap[g]? = some (.cells #[a, b, c] T (0, 0))) : w.cell? ⟨g, 0, none⟩ = some a ∧ w.cell? ⟨g, 1, none⟩ = some b ∧ w.cell? ⟨g, 2, none⟩ = some c :=
  ⟨row_cell h 0, row_cell h 1, row_cell h 2⟩
end
theorem cell_set3 {w : World} {p : Addr} {g : Nat} {x a b c : Value} (h : w.cell? p = some x) (hne : p.block ≠ g) : (((w.setCell ⟨g, 0, none⟩ a).setCell ⟨g, 1, none⟩ b).setCell ⟨g, 2, none⟩ c).cell? p = some x := by
  unfold World.cell? at h ⊢
  rw [Below.heap_setCell _ _ _ _ hne, Below.heap_setCell _ _ _ _ hne, Below.heap_setCell _ _ _ _ hne]
  exact h
/-- an image was answered and laid -/
structure Got (w4 V : World) (gx : Nat) (W H : Int) (A : Option Addr) (c : Nat) (l : List Int) : Prop where
  bel : Below w4.heap.size w4 V
  row : V.heap[gx]? = some (.cells #[.int .i64 W, .int .i64 H, .slice A l.length c] 26 (0, 0))
  own : V.ownsRow w4.heap.size 43 1 (.slice A l.length c) l.length (l.map (.int .u16))
  big : w4.heap.size ≤ gx
theorem got_alloc {w4 v2 : World} {W H : Int} {A : Option Addr} {c : Nat} {l : List Int} (hb : Below w4.heap.size w4 v2) (ho : v2.ownsRow w4.heap.size 43 1 (.slice A l.length c) l.length (l.map (.int .u16))) :
    Got w4 (v2.alloc (.cells #[.int .i64 W, .int .i64 H, .slice A l.length c] 26)) v2.heap.size W H A c l :=
  ⟨bel_al hb _, heap_alloc_new _ _, ho.alloc _, hb.size⟩
theorem row_sets {w : World} {g : Nat} {T : TypeId} {x y z a b c : Value} (h : w.heap[g]? = some (.cells #[x, y, z] T (0, 0))) : (((w.setCell ⟨g, 0, none⟩ a).setCell ⟨g, 1, none⟩ b).setCell ⟨g, 2, none⟩ c).heap[g]? = some (.cells #[a, b, c] T (0, 0)) := by
  have h0 : (w.setCell ⟨g, 0, none⟩ a).heap[g]? = some (.cells #[a, y, z] T (0, 0)) := by rw [setCell_eq_setRow w g 0 _ T (0, 0) a h, setRow_heap _ _ _ _ _ _ h]; rfl
  have h1 : ((w.setCell ⟨g, 0, none⟩ a).setCell ⟨g, 1, none⟩ b).heap[g]? = some (.cells #[a, b, z] T (0, 0)) := by rw [setCell_eq_setRow _ g 1 _ T (0, 0) b h0, setRow_heap _ _ _ _ _ _ h0]; rfl
  rw [setCell_eq_setRow _ g 2 _ T (0, 0) c h1, setRow_heap _ _ _ _ _ _ h1]; rfl
theorem got_set {w4 v2 : World} {gx : Nat} {W H : Int} {A : Option Addr} {c : Nat} {l : List Int} (hb : Below w4.heap.size w4 v2) (ho : v2.ownsRow w4.heap.size 43 1 (.slice A l.length c) l.length (l.map (.int .u16)))
    (hz : v2.heap[gx]? = some (.cells zimg 26 (0, 0))) (hg : w4.heap.size ≤ gx) :
    Got w4 (((v2.setCell ⟨gx, 0, none⟩ (.int .i64 W)).setCell ⟨gx, 1, none⟩ (.int .i64 H)).setCell ⟨gx, 2, none⟩ (.slice A l.length c)) gx W H A c l := by
  have hk : ∀ {V V' : World}, V.ownsRow w4.heap.size 43 1 (.slice A l.length c) l.length (l.map (.int .u16)) → V.grownBy V' (some gx) → V'.ownsRow w4.heap.size 43 1 (.slice A l.length c) l.length (l.map (.int .u16)) :=
    fun h hg => h.kept hg (.inr (own_ne ho hz (by decide)).symm)
  refine ⟨((hb.setCell (p := ⟨gx, 0, none⟩) hg _).setCell (p := ⟨gx, 1, none⟩) hg _).setCell (p := ⟨gx, 2, none⟩) hg _, row_sets hz, ?_, hg⟩
  exact hk (hk (hk ho (grown_set1 _ _ _ _)) (grown_set1 _ _ _ _)) (grown_set1 _ _ _ _)
theorem Got.si {w4 V : World} {gx : Nat} {W H : Int} {A : Option Addr} {c : Nat} {l : List Int} (h : Got w4 V gx W H A c l) (hl : l.length ≤ 70368744175616) : SI V .u16 A l.length l := SI.of_own h.own (by simp only [kb]; omega)
end Go.Proofs.YtbmlopklhgladaaDoor.Ard
