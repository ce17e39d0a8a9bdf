/-
  The reference's Parse: its memory; lines by their places.
-/
import Derived.Test.YtoofgblmpjndjaaGreatDoorZG25
import Derived.Test.YtoofgblmpjndjaaGreatDoorZG17
import Derived.Test.YtoofgblmpjndjaaGreatDoorZG21
set_option linter.unusedVariables false
set_option linter.unusedSimpArgs false
namespace Go.Proofs.YtoofgblmpjndjaaGreatDoor.Scr
open Go.RowKit K Go.Lib Go.Shelf

structure RPQ (w W : World) (v : Value) (k : Nat) (R : List SRow) (v2 : Value) (m : Nat) (kn : List Tx) : Prop where
 bel : Below w.heap.size w W
 out : TO W w.heap.size v k R
 kno : W.ownsRow w.heap.size 9 1 v2 m (kn.map vS)
 apart : ∀ r ∈ R, (Value.slice r.A r.n r.c).ownBlock = none ∨ (Value.slice r.A r.n r.c).ownBlock ≠ v2.ownBlock
theorem apart_of {W V : World} {b1 b2 : Nat} {e1 e2 : TypeId} {s1 s2 : Nat} {v1 v2 : Value} {n1 n2 : Nat} {xs1 xs2 : List Value} (h1 : V.ownsRow b1 e1 s1 v1 n1 xs1) (h2 : W.ownsRow b2 e2 s2 v2 n2 xs2) (h : W.heap.size ≤ b1) : v1.ownBlock = none ∨ v1.ownBlock ≠ v2.ownBlock := by
 cases hv : v1.ownBlock with
 | none => exact .inl rfl
 | some g =>
  refine .inr fun e => ?_
  have := (h1.lt g hv).1
  have := (h2.lt g e.symm).2
  omega
section
variable {w W W2 : World} {v v2 : Value} {k m : Nat} {R : List SRow} {kn : List Tx}
theorem RPQ.start (w : World) : RPQ w w (.slice none 0 0) 0 [] (.slice none 0 0) 0 [] := ⟨Below.refl _ _, TO.nil _ _, World.ownsRow_nil _ _ _ _, fun r hr => by cases hr⟩
theorem RPQ.on (h : RPQ w W v k R v2 m kn) (hb : Below W.heap.size W W2) : RPQ w W2 v k R v2 m kn :=
 ⟨h.bel.trans (hb.mono h.bel.size), h.out.below hb, own_below h.kno hb, h.apart⟩
theorem RPQ.app {v' : Value} {r : SRow} (h : RPQ w W v k R v2 m kn) (hr : r.own W w.heap.size) (hra : (Value.slice r.A r.n r.c).ownBlock = none ∨ (Value.slice r.A r.n r.c).ownBlock ≠ v2.ownBlock)
  (h1 : W2.ownsRow w.heap.size 37 6 v' (k + 1) ((R.flatMap fun r => r.cells.toList) ++ r.cells.toList)) (hg : W.grownBy W2 v.ownBlock) : RPQ w W2 v' (k + 1) (R ++ [r]) v2 m kn := by
 refine ⟨h.bel.grown hg h.bel.size (fun q e => (h.out.1.lt q e).1), h.out.more (w0 := w) hr h1 hg, h.kno.kept hg (own_apart h.kno h.out.1 (by decide)), fun x hx => ?_⟩
 rw [List.mem_append, List.mem_singleton] at hx
 rcases hx with hx | rfl
 ·exact h.apart x hx
 ·exact hra
theorem RPQ.learn {g cap : Nat} {x : Tx} (h : RPQ w W v k R v2 m kn) (h1 : W2.ownsRow w.heap.size 9 1 (.slice (some ⟨g, 0, none⟩) (m + 1) cap) (m + 1) (kn.map vS ++ [vS x])) (hg : W.grownBy W2 v2.ownBlock) (hgo : v2.ownBlock = some g ∨ g = W.heap.size) :
  RPQ w W2 v k R (.slice (some ⟨g, 0, none⟩) (m + 1) cap) (m + 1) (kn ++ [x]) := by
 refine ⟨h.bel.grown hg h.bel.size (fun q e => (h.kno.lt q e).1), ⟨h.out.1.kept hg (own_apart h.out.1 h.kno (by decide)), h.out.2.1, fun r hr => ⟨(h.out.2.2 r hr).1.kept hg (h.apart r hr), (h.out.2.2 r hr).2.kept hg (own_apart (h.out.2.2 r hr).2 h.kno (by decide))⟩⟩, by rw [List.map_append]; exact h1, fun r hr => ?_⟩
 rcases h.apart r hr with h2 | h2
 ·exact .inl h2
 ·rcases hgo with hgo | hgo
  ·right
   rw [hgo] at h2
   exact h2
  ·cases hv : (Value.slice r.A r.n r.c).ownBlock with
   | none => exact .inl rfl
   | some q =>
    right
    intro e
    have h3 := ((h.out.2.2 r hr).1.lt q hv).2
    have h4 : (Value.slice (some ⟨g, 0, none⟩) (m + 1) cap).ownBlock = some g := rfl
    rw [h4] at e
    injection e with e
    omega
end
def restL (t : Tx) (f : Nat) : List Tx := if f ≤ t.length then linesM (t.drop f) [] else []
theorem rest_line {t : Tx} {f i : Nat} (hf : f ≤ i) (hi : i ≤ t.length) (hno : ∀ j, f ≤ j → j < i → t.getD j 0 ≠ 10) (he : i = t.length ∨ (i < t.length ∧ t.getD i 0 = 10)) : restL t f = ((t.drop f).take (i - f)) :: restL t (i + 1) := by
 have hL : ∀ c ∈ (t.drop f).take (i - f), c ≠ 10 := fun c hc => by
  obtain ⟨j, hj, e⟩ := List.mem_iff_getElem.1 hc
  rw [List.length_take, List.length_drop] at hj
  rw [List.getElem_take, List.getElem_drop] at e
  have := hno (f + j) (by omega) (by omega)
  rw [List.getD_eq_getElem?_getD, List.getElem?_eq_getElem (by omega), Option.getD_some, e] at this
  exact this
 unfold restL
 rw [if_pos (by omega)]
 rcases he with he | ⟨hlt, h10⟩
 ·rw [if_neg (by omega)]
  have : (t.drop f).take (i - f) = t.drop f := List.take_of_length_le (by rw [List.length_drop]; omega)
  rw [this] at hL ⊢
  rw [lines_one hL, List.nil_append]
 ·rw [if_pos (by omega)]
  have h2 : t.drop f = (t.drop f).take (i - f) ++ 10 :: t.drop (i + 1) := by
   conv => lhs; rw [← List.take_append_drop (i - f) (t.drop f)]
   rw [List.drop_drop, show f + (i - f) = i by omega, List.drop_eq_getElem_cons hlt]
   rw [List.getD_eq_getElem?_getD, List.getElem?_eq_getElem hlt, Option.getD_some] at h10
   rw [h10]
  conv => lhs; rw [h2]
  rw [lines_append, lines_one hL, List.nil_append]
  rfl
theorem rest_end {t : Tx} {f : Nat} (h : f = t.length + 1) : restL t f = [] := by unfold restL; rw [if_neg (by omega)]
theorem rest_all (t : Tx) : restL t 0 = linesM t [] := by unfold restL; rw [if_pos (Nat.zero_le _), List.drop_zero]
theorem wrap1 {k k1 : Nat} (h : k ≤ 1099511627776) (e : k + 1 = k1) : wrap64 ((k : Int) + 1) = (k1 : Int) := by rw [IntWalk.wrap64_in _ (by omega)]; omega
theorem wrap2 {k k1 : Nat} (h : k ≤ 1099511627776) (e : k + 1 = k1) : IntKind.i64.wrap ((k : Int) + 1) = (k1 : Int) := by rw [IntKind.wrap_i64]; omega
end Go.Proofs.YtoofgblmpjndjaaGreatDoor.Scr
