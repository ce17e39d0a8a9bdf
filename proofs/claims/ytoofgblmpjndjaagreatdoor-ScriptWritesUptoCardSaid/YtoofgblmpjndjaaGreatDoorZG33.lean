/-
  The reference's Write: plain laws; a part of one step.
-/
import Derived.Test.YtoofgblmpjndjaaGreatDoorZG29
import Derived.Test.YtoofgblmpjndjaaGreatDoorZG32
set_option linter.unusedVariables false
set_option linter.unusedSimpArgs false
namespace Go.Proofs.YtoofgblmpjndjaaGreatDoor.Scr
open Go.RowKit K Go.Lib Go.Shelf

def FitW (s : St) : Prop := (headS s).length ≤ 8388608 ∧ s.args.length ≤ 1048576 ∧ ∀ a ∈ s.args, -9223372036854775808 ≤ a ∧ a ≤ 9223372036854775807
theorem argsS_len {op : Tx} : ∀ {l : List Int} {k : Nat}, (∀ a ∈ l, -9223372036854775808 ≤ a ∧ a ≤ 9223372036854775807) → (argsS op k l).length ≤ 22 * l.length
 | [], k, _ => by simp [argsS]
 | a :: r, k, h => by
  rw [argsS_cons]
  split
  ·exact Nat.zero_le _
  ·have h1 := wordA_len (op := op) (k := k) (h a (by simp))
   have h2 := argsS_len (op := op) (l := r) (k := k + 1) (fun x hx => h x (by simp [hx]))
   rw [List.cons_append, List.length_cons, List.length_append, List.length_cons]
   omega
theorem FitW.len {s : St} (h : FitW s) : (spellT s).length ≤ 33554432 := by
 have h1 := argsS_len (op := s.op) (k := 0) h.2.2
 have h2 := h.1
 have h3 := h.2.1
 unfold spellT
 rw [List.length_append]
 omega
theorem TS.part {w : World} {A : Option Addr} {n i : Nat} {l : List (Int × St)} {p : Int × St} {b o : Nat} (h : TS w A n l) (hA : A = some ⟨b, o, none⟩) (hp : l[i]? = some p) : TS w (some ⟨b, o + i * 6, none⟩) 1 [p] := by
 refine ⟨rfl, by omega, fun j q hq => ?_⟩
 obtain ⟨hj, e⟩ := List.getElem?_eq_some_iff.1 hq
 have hj0 : j = 0 := by simpa using hj
 subst hj0
 have e2 : p = q := by simpa using e
 subst e2
 obtain ⟨b2, o2, hA2, hs, hl⟩ := h.at' i p hp
 rw [hA] at hA2
 injection hA2 with e3
 injection e3 with e4 e5
 subst e4 e5
 exact ⟨b, o + i * 6, rfl, by rw [Nat.zero_mul, Nat.add_zero]; exact hs, hl⟩
theorem TS.one {w : World} {g : Nat} {p : Int × St} (h : StepAt w g 0 p) (hg : g < w.heap.size) : TS w (some ⟨g, 0, none⟩) 1 [p] := by
 refine ⟨rfl, by omega, fun j q hq => ?_⟩
 obtain ⟨hj, e⟩ := List.getElem?_eq_some_iff.1 hq
 have hj0 : j = 0 := by simpa using hj
 subst hj0
 have e2 : p = q := by simpa using e
 subst e2
 exact ⟨g, 0, rfl, h, hg⟩
theorem run_partG {P : Program} {t e : TypeId} {z : Nat} (ht : P.underlying t = some (.slice e)) (hz : (P.info? e).map (·.size) = some z) {b o n c a m : Nat} {i j : Int} (hi : i = a) (hj : j = m) (ha : a ≤ m) (hm : m ≤ c) (hac : a < c) (w : World) :
  (Instr.sliceAt t (.slice (some ⟨b, o, none⟩) n c) (some (.int .i64 i)) (some (.int .i64 j)) none).run P w = .ok (.slice (some ⟨b, o + a * z, none⟩) (m - a) (c - a)) w := by
 subst hi hj
 have he : P.elem t = e := by unfold Program.elem; rw [ht]
 have ht' : P.underlying t = some (.slice (P.elem t)) := by rw [he]; exact ht
 have hs : ∀ w, (sizeOf (P.elem t)).run P w = .ok z w := fun w => by
  rw [he]
  obtain ⟨i, hi, hz1⟩ := Option.map_eq_some_iff.1 hz
  simp [sizeOf, typeInfo, hi, hz1]
 rw [run_sliceAt_slice _ _ _ _ _ _ ht', run_slice_lh _ _ _ _ _ ht' .i64 .i64 (a : Int) (m : Int) (by omega) (by omega) (by omega), hs]
 have hne : ¬ c = a := by omega
 simp [Result.andThen, sliced, hne, Addr.add_lit]
def pc (c : UInt8) : Bool := !(c == 10 || c == 13 || c == 9 || c == 35)
theorem bad_char {t : Tx} {k : Nat} {c : UInt8} (h : t[k]? = some c) (hc : pc c = false) : plainT t = false := by
 unfold plainT
 rw [List.all_eq_false]
 exact ⟨c, List.mem_of_getElem? h, by unfold pc at hc; rw [hc]; decide⟩
theorem wrR_none : wrR none = ([], 7) := rfl
end Go.Proofs.YtoofgblmpjndjaaGreatDoor.Scr
