/-
  Contracts of prefix.Codes, Build, New and of the reference's Codes at whatever input: what is answered is new memory.
-/
import Derived.Test.YtpecemkjoklhfaaPfxE
import Derived.Test.YtpecemkjoklhfaaPfxC
import Derived.Test.YtpecemkjoklhfaaBldC
set_option linter.unusedVariables false
set_option linter.unusedSimpArgs false
namespace Go.Proofs.Ytpecemkjoklhfaa.Own
open Go.RowKit K Pfx Bits Bld

/-- a list whose cells may be written -/
structure Wr (w : World) (X : Option Addr) (nx : Nat) (k : IntKind) : Prop where
  at_ : ∀ j, j < nx → ∃ b v, X = some ⟨b, 0, none⟩ ∧ w.cell? ⟨b, j, none⟩ = some (.int k v) ∧ w.frozen? ⟨b, j, none⟩ = false
def blk (X : Option Addr) : Option Nat := X.map (·.block)
section
variable {w w' : World} {X : Option Addr} {nx : Nat} {k : IntKind}
theorem Wr.zero (w : World) (X : Option Addr) (k : IntKind) : Wr w X 0 k := ⟨fun j h => by omega⟩
theorem Wr.set (h : Wr w X nx k) {b : Nat} (e : X = some ⟨b, 0, none⟩) (i : Nat) (v : Int) : Wr (w.setCell ⟨b, i, none⟩ (.int k v)) X nx k :=
  ⟨fun j hj => by
    obtain ⟨b', v', e', hc, hf⟩ := h.at_ j hj
    have : b' = b := by rw [e] at e'; injection e' with e'; injection e' with e'; exact e'.symm
    subst this
    by_cases hji : j = i
    · subst hji
      exact ⟨b', v, e', World.cell?_setCell_same _ _ _ hc, by rw [World.frozen?_setCell]; exact hf⟩
    · exact ⟨b', v', e', by rw [World.cell?_setCell_other _ _ _ _ (by simp <;> omega)]; exact hc, by rw [World.frozen?_setCell]; exact hf⟩⟩
theorem Wr.keep (h : Wr w X nx k) {row : Option Nat} (hg : w.grownBy w' row) (hne : ∀ b, X = some ⟨b, 0, none⟩ → some b ≠ row) : Wr w' X nx k :=
  ⟨fun j hj => by
    obtain ⟨b, v, e, hc, hf⟩ := h.at_ j hj
    have hb := hg.block b (World.block_lt_of_cell? w _ hc) (hne b e)
    exact ⟨b, v, e, (World.cell?_of_block (a := ⟨b, j, none⟩) hb).trans hc, (World.frozen?_of_block (a := ⟨b, j, none⟩) hb).trans hf⟩⟩
theorem Wr.below (h : Wr w X nx k) (hb : Below w.heap.size w w') : Wr w' X nx k := h.keep (grown_below hb none) (fun _ _ => by simp)
theorem Wr.of_row {T m b : Nat} {f : Nat → Int} (h : w.rowIs b T m (fun i => .int k (f i))) (hn : nx ≤ m) : Wr w (some ⟨b, 0, none⟩) nx k :=
  ⟨fun j hj => ⟨b, f j, rfl, h.cell (by omega), h.frozen j⟩⟩
theorem Wr.of_own {base e c g : Nat} {l : List Int} (h : w.ownsRow base e 1 (.slice (some ⟨g, 0, none⟩) nx c) nx (l.map (.int k))) : Wr w (some ⟨g, 0, none⟩) nx k :=
  ⟨fun j hj => by
    have hl : j < l.length := by have := h.1; simp at this; omega
    exact ⟨g, l[j], rfl, by rw [h.cellAt j (by omega)]; simp [hl], h.frozenAt j⟩⟩
end
structure CodesAny (w : World) (l : List Int) (n : Nat) (X : Option Addr) (nx : Nat) (w' : World) : Prop where
  bel : Below w.heap.size w w'
  wr : Wr w' X nx .u32
  len : nx = if checkedOf l = 0 then n else 0
  lo : ∀ b, blk X = some b → w.heap.size ≤ b ∧ b < w'.heap.size
  val : ∀ j, j < nx → ∃ b, X = some ⟨b, 0, none⟩ ∧ w'.cell? ⟨b, j, none⟩ = some (.int .u32 (codeAt l j))
def CodesPost (w : World) (l : List Int) (n : Nat) (e : Ending) (w' : World) : Prop := ∃ X nx cx, e = .returned (.tuple #[.slice X nx cx, .int .i64 (checkedOf l)]) ∧ CodesAny w l n X nx w'
theorem codesAny_nil {w : World} {l : List Int} {n : Nat} (h : checkedOf l ≠ 0) : CodesAny w l n none 0 w :=
  ⟨Below.refl _ _, Wr.zero _ _ _, by rw [if_neg h], (fun b e => by simp [blk] at e), fun j hj => by omega⟩
theorem codes_any {A : Option Addr} {n c : Nat} {l : List Int} (w : World) (HA : SI w .i64 A n l) : Calls Try.prog 14 #[.slice A n c] w (CodesPost w l n) := by
  have hlen := HA.len
  by_cases h : checkedOf l = 0
  · refine (codes_ok w HA h).mono ?_
    rintro e w' ⟨rfl, h3⟩
    have hlt := h3.out.lt
    refine ⟨_, _, _, by rw [h], h3.bel, Wr.of_row h3.out (by omega), by rw [if_pos h], fun b e => ?_, fun j hj => ⟨_, rfl, ?_⟩⟩
    · simp [blk] at e; omega
    · have := h3.out.cell (i := j) (by omega)
      rwa [if_pos hj] at this
  · refine (codes_err w HA h).mono ?_
    rintro e w' ⟨rfl, rfl⟩
    exact ⟨_, _, _, rfl, codesAny_nil h⟩
theorem out_eq {l : List Int} (h0 : l.any badLen = false) {i : Nat} (hi : i < l.length) : (if given l 17 0 i then codeAt l i else 0) = codeAt l i := by
  have h : ∀ x ∈ l, badLen x = false := fun x hx => by
    have := List.any_eq_false.1 h0 x hx
    simpa using this
  by_cases hg : given l 17 0 i = true
  · rw [if_pos hg]
  · rw [if_neg hg]
    have hm : l.getD i 0 ∈ l := by
      rw [List.getD_eq_getElem?_getD, List.getElem?_eq_getElem hi]
      exact List.getElem_mem hi
    have := h _ hm
    unfold codeAt
    simp only [given, badLen, Bool.or_eq_true, Bool.and_eq_true, decide_eq_true_eq, Bool.or_eq_false_iff, decide_eq_false_iff_not] at hg this
    show 0 = if 0 < l.getD i 0 then _ else _
    rw [if_neg (by omega)]
theorem rcodes_any {A : Option Addr} {n c : Nat} {l : List Int} (w : World) (HA : SI w .i64 A n l) : Calls Try.prog 15 #[.slice A n c] w (CodesPost w l n) := by
  have hlen := HA.len
  by_cases h : checkedOf l = 0
  · refine (rcodes_ok w HA h).mono ?_
    rintro e w' ⟨rfl, h3⟩
    have hlt := h3.out.lt
    refine ⟨_, _, _, by rw [h], h3.bel, Wr.of_row h3.out (by omega), by rw [if_pos h], fun b e => ?_, fun j hj => ⟨_, rfl, ?_⟩⟩
    · simp [blk] at e; omega
    · have := h3.out.cell (i := j) (by omega)
      rw [out_eq (checked_zero h).2.1 (by omega)] at this
      exact this
  · refine (rcodes_err w HA h).mono ?_
    rintro e w' ⟨rfl, rfl⟩
    exact ⟨_, _, _, rfl, codesAny_nil h⟩
structure BuildAny (w : World) (X : Option Addr) (nx : Nat) (w' : World) : Prop where
  bel : Below w.heap.size w w'
  wr : Wr w' X nx .i64
  lo : ∀ b, blk X = some b → w.heap.size ≤ b ∧ b < w'.heap.size
  le : nx ≤ 4096
def BuildPost' (w : World) (e : Ending) (w' : World) : Prop := ∃ X nx cx er, e = .returned (.tuple #[.slice X nx cx, .int .i64 er]) ∧ BuildAny w X nx w'
theorem buildAny_nil {w w' : World} (h : Below w.heap.size w w') : BuildAny w none 0 w' := ⟨h, Wr.zero _ _ _, (fun b e => by simp [blk] at e), by omega⟩
theorem build_any {A : Option Addr} {n c : Nat} {mo : Int} {l : List Int} (w : World) (HA : SI w .i64 A n l) : Calls Try.prog 16 #[.slice A n c, .int .i64 mo] w (BuildPost' w) := by
  have hlen := HA.len
  by_cases h1 : 4096 < n
  · refine (build_long w HA h1).mono ?_
    rintro e w' ⟨rfl, rfl⟩
    exact ⟨_, _, _, _, rfl, buildAny_nil (Below.refl _ _)⟩
  · by_cases h2 : mo < 1 ∨ 16 < mo ∨ l.any heavyB = true
    · refine (build_range w HA (by omega) h2).mono ?_
      rintro e w' ⟨rfl, rfl⟩
      exact ⟨_, _, _, _, rfl, buildAny_nil (Below.refl _ _)⟩
    · obtain ⟨most, rfl⟩ : ∃ m : Nat, mo = m := ⟨mo.toNat, by omega⟩
      have h3 : l.any heavyB = false := by
        cases h : l.any heavyB with
        | false => rfl
        | true => exact absurd (.inr (.inr h)) h2
      refine (build_ok w HA (by omega) (by omega) (by omega) h3).mono ?_
      rintro e w' ⟨hb, h⟩
      split at h
      · exact ⟨_, _, _, _, h, buildAny_nil hb⟩
      · obtain ⟨b, o, hlo, he, hr, -⟩ := h
        have hlt := hr.lt
        refine ⟨_, _, _, _, he, hb, Wr.of_row hr (Nat.le_refl _), fun b' e' => ?_, by omega⟩
        simp [blk] at e'; omega
structure NewAny (w : World) (l : List Int) (D : Option Addr) (w' : World) : Prop where
  bel : Below w.heap.size w w'
  bad : checkedOf l ≠ 0 → D = none
  ok : checkedOf l = 0 → D = some ⟨w.heap.size, 0, none⟩ ∧ ∃ A c, Dc w' w.heap.size l A c ∧ ∀ b off s, A = some ⟨b, off, s⟩ → w.heap.size < b ∧ b < w'.heap.size
def NewPost' (w : World) (l : List Int) (e : Ending) (w' : World) : Prop := ∃ D, e = .returned (.tuple #[.pointer D, .int .i64 (checkedOf l)]) ∧ NewAny w l D w'
theorem new_any {A : Option Addr} {n c : Nat} {l : List Int} (w : World) (HA : SI w .i64 A n l) : Calls Try.prog 19 #[.slice A n c] w (NewPost' w l) := by
  by_cases h : checkedOf l = 0
  · refine (new_ok w HA h).mono ?_
    rintro e w' ⟨v, rfl, h3⟩
    obtain ⟨Ad, cd, rfl, hD, hAd⟩ := Dc.of_D1 h3 (checked_zero h).1
    exact ⟨_, by rw [h], h3.bel, fun hn => absurd h hn, fun _ => ⟨rfl, Ad, cd, hD, fun b off s e => ⟨hAd b off s e, (h3.tab.lt b (by rw [e]; rfl)).2⟩⟩⟩
  · refine (new_err w HA h).mono ?_
    rintro e w' ⟨rfl, rfl⟩
    exact ⟨_, rfl, Below.refl _ _, fun _ => rfl, fun hz => absurd hz h⟩
end Go.Proofs.Ytpecemkjoklhfaa.Own
