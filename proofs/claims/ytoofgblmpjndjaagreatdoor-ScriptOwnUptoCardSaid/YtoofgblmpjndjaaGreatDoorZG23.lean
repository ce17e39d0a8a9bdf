/-
  A map from texts to bools that the call makes: which texts are in it.
-/
import Derived.Test.YtoofgblmpjndjaaGreatDoorZG3
import Derived.Test.YtoofgblmpjndjaaGreatDoorChecked
import Derived.Maps.Views
import Derived.Maps.OwnOps
import Derived.StringKeys
set_option linter.unusedVariables false
set_option linter.unusedSimpArgs false
namespace Go.Proofs.YtoofgblmpjndjaaGreatDoor.Scr
open Go.RowKit K Go.Maps

theorem keyS : Keyed Tryz.prog 9 := string_keyed Tryz.underlying9
theorem zeroB (w : World) : (zeroValue 4).run Tryz.prog w = .ok (.bool false) w := by kernel_rfl
def KM (w : World) (B n : Nat) (p : Tx → Bool) : Prop := ∃ D : DataW Nat, w.ownsMap Tryz.prog 9 (plainElem Tryz.prog 4) B n D ∧ IsMap D ∧ ∀ t : Tx, D.atKey (.string t) (.lit (.bool false)) = .lit (.bool (p t))
theorem keyOf_tx {t : Tx} (h : t.length ≤ maxLen) : keyOf Tryz.prog 9 (.string (ba t)) = some (.string t) := WideMaps.keyOf_string_mk Tryz.underlying9 (s := ba t) h
set_option maxRecDepth 100000 in
theorem plainB_inv {v : Value} {z : DataW Nat × List MemPlace} (h : plainElem Tryz.prog 4 v = some z) : ∃ b, v = .bool b ∧ z.1 = .lit (.bool b) := by
 unfold plainElem at h
 rw [Tryz.underlying4] at h
 cases v <;> simp at h
 subst h
 exact ⟨_, rfl, rfl⟩
theorem KM.made (w : World) : KM (w.alloc (.map #[] 0)) w.heap.size 0 (fun _ => false) := ⟨.map [], World.ownsMap_made w _ _ _, isMap_empty, fun t => rfl⟩
theorem KM.lt {w : World} {B n : Nat} {p : Tx → Bool} (h : KM w B n p) : B < w.heap.size := h.choose_spec.1.lt
theorem KM.below {w w' : World} {B n N : Nat} {p : Tx → Bool} (h : KM w B n p) (hb : Below N w w') (hB : B < N) : KM w' B n p := by
 obtain ⟨D, ⟨es, clock, h1, h2, h3, h4⟩, hm, hD⟩ := h
 exact ⟨D, ⟨es, clock, (hb.block B hB).trans h1, h2, h3, h4⟩, hm, hD⟩
theorem KM.same {w w' : World} {B n : Nat} {p : Tx → Bool} (h : KM w B n p) (hb : w'.heap[B]? = w.heap[B]?) : KM w' B n p := by
 obtain ⟨D, ⟨es, clock, h1, h2, h3, h4⟩, hm, hD⟩ := h
 exact ⟨D, ⟨es, clock, hb.trans h1, h2, h3, h4⟩, hm, hD⟩
set_option maxRecDepth 100000 in
theorem KM.look {w : World} {B n : Nat} {p : Tx → Bool} (h : KM w B n p) {t : Tx} (ht : t.length ≤ maxLen) : (Instr.lookup 46 (.map (some B)) (.string (ba t)) false).run Tryz.prog w = .ok (.bool (p t)) w := by
 obtain ⟨D, ho, hm, hD⟩ := h
 obtain ⟨v, ps, h1, h2⟩ := ho.lookup (t := 46) keyS Tryz.underlying46 (zeroB w) (plainElem_bool Tryz.underlying4 false) (keyOf_tx ht)
 obtain ⟨b, rfl, hb⟩ := plainB_inv h2
 rw [hD t] at hb
 injection hb with hb
 injection hb with hb
 rw [h1, hb]
set_option maxRecDepth 100000 in
theorem KM.put {w : World} {B n : Nat} {p : Tx → Bool} (h : KM w B n p) (hn : n < maxLen) {t : Tx} (ht : t.length ≤ maxLen) :
  ∃ w', (Instr.mapUpdate 46 (.map (some B)) (.string (ba t)) (.bool true)).run Tryz.prog w = .ok () w' ∧ KM w' B (n + 1) (fun u => u == t || p u) ∧ w.grownBy w' (some B) := by
 obtain ⟨D, ho, hm, hD⟩ := h
 obtain ⟨w', h1, h2, h3⟩ := ho.update (t := 46) keyS Tryz.underlying46 hn (keyOf_tx ht) (plainElem_bool Tryz.underlying4 true)
 refine ⟨w', h1, ⟨_, h2, hm.put _ _, fun u => ?_⟩, h3⟩
 by_cases hu : u = t
 ·subst hu
  rw [atKey_put_same hm (by exact trivial)]
  simp
 ·rw [atKey_put_other (fun e => hu (by injection e)), hD u]
  simp [hu]
end Go.Proofs.YtoofgblmpjndjaaGreatDoor.Scr
