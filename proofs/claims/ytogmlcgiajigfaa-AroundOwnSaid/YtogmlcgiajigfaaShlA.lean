/-
  A law's shell: an image, ints among the arguments, opened.
-/
import Derived.Test.YtogmlcgiajigfaaRows
import Derived.Test.YtogmlcgiajigfaaKit
import Derived.WalkKit
import Derived.ProofKit
import Derived.Lib.SmallJoins
import Derived.SizedLaws
import Derived.OpenShut
set_option linter.unusedVariables false
set_option linter.unusedSimpArgs false
namespace Go.Proofs.Ytogmlcgiajigfaa.Shl
open Go.Joins Go.ChangeShapes Go.WideShapes Go.ChangeAt Go.RowKit Go.Deep

section
variable {H : Type} {enc : TypeId × Value → H} {W : World} {base : Nat}
theorem bytesU : Try.prog.bytesOf 53 = 2 := by kernel_rfl
theorem bytesI : Try.prog.bytesOf 3 = 8 := by kernel_rfl
theorem cellsImg : Try.prog.cellsOf 37 = 3 := by kernel_rfl
theorem wf_u16 {x : Int} (h : (Lit.int .u16 x).wf = true) : 0 ≤ x ∧ x < 65536 := by
  have h0 : IntKind.u16.min = 0 := rfl
  have h1 : IntKind.u16.max = 65535 := rfl
  simp [Lit.wf, h0, h1] at h
  omega
theorem wf_i64 {x : Int} (h : (Lit.int .i64 x).wf = true) : -9223372036854775808 ≤ x ∧ x ≤ 9223372036854775807 := by
  have h0 : IntKind.i64.min = -9223372036854775808 := rfl
  have h1 : IntKind.i64.max = 9223372036854775807 := rfl
  simp [Lit.wf, h0, h1] at h
  omega
/-- a row of numbers as the kit's view -/
theorem si_row {k : IntKind} {w : World} {a : Addr} {len cap : Nat} {zs : List Int} (hl : len ≤ cap) (hz : zs.length = cap) (hc : ∀ i, i < zs.length → w.cell? (a.add i) = some (.int k (zs.getD i 0))) (hr : cap * K.kb k ≤ 140737488351232) : K.SI w k (some a) len (zs.take len) := by
  refine ⟨by rw [List.length_take]; omega, Nat.le_trans (Nat.mul_le_mul_right _ hl) hr, fun j u hu => ?_⟩
  rw [List.getElem?_map, List.getElem?_take] at hu
  by_cases hj : j < len
  · rw [if_pos hj] at hu
    obtain ⟨b, off, rfl, hc2⟩ := ints_at hc (by omega)
    refine ⟨b, off, rfl, ?_⟩
    rw [hc2 j (by omega), ← hu, List.getD_eq_getElem?_getD, List.getElem?_eq_getElem (by omega)]
    rfl
  · rw [if_neg hj] at hu; simp at hu
/-- a field or an argument that is a slice of numbers -/
theorem open_row {t e : TypeId} {k : IntKind} {fuel : Nat} {v : Value} {x : DataW H × List MemPlace} (ht : Try.prog.underlying t = some (.slice e)) (he : Try.prog.underlying e = some (.int k)) (hc : Try.prog.cellsOf e = 1) (hb : Try.prog.bytesOf e = K.kb k)
    (h : DataW.trod enc Try.prog W 0 (fun _ => true) true fuel t [v] = some x) (hs : ∀ n ∈ x.1.weights Try.prog t, n ≤ reachBytes) :
    ∃ A len cap l, v = .slice A len cap ∧ K.SI W k A len l ∧ (∀ y ∈ l, (Lit.int k y).wf = true) ∧ len ≤ cap ∧ cap ≤ maxLen := by
  rcases open_ints ht he hc h with ⟨hcs, _⟩ | ⟨x, len, cap, zs, hcs, _, hl, hm, hz, hx0, hcell, hwz⟩
  · injection hcs with e1
    exact ⟨none, 0, 0, [], e1, K.SI.nil W k none, fun y hy => by simp at hy, Nat.le_refl _, Nat.zero_le _⟩
  · injection hcs with e1
    have hz' : zs.length = cap := by simpa using hz
    subst hx0
    have := hs (((lits k (zs.take len) : List (DataW H)).length + (lits k (zs.drop len) : List (DataW H)).length) * Try.prog.bytesOf e) (by simp [DataW.weights, ht])
    rw [hb] at this
    simp only [lits, List.length_map, List.length_take, List.length_drop, reachBytes] at this
    have h2 : min len zs.length + (zs.length - len) = cap := by omega
    rw [h2] at this
    exact ⟨some x, len, cap, zs.take len, e1, si_row hl hz' hcell (by omega), fun y hy => hwz y (List.mem_of_mem_take hy), hl, hm⟩
set_option maxRecDepth 100000 in
theorem open_image {v : Value} {d : DataW H} {p : List MemPlace} (hv : Value.okWide Try.prog W .any base 37 v) (h : DataW.Trod enc Try.prog W 0 (fun _ => true) true 37 v d p) (hs : ∀ n ∈ d.weights Try.prog 37, n ≤ reachBytes) :
    ∃ a0 a1 A len cap l, v = .agg #[.int .i64 a0, .int .i64 a1, .slice A len cap] ∧ K.SI W .u16 A len l ∧ (∀ y ∈ l, 0 ≤ y ∧ y < 65536) ∧ len ≤ cap ∧ cap ≤ maxLen := by
  obtain ⟨v0, v1, v2, y0, y1, y2, n, rfl, rfl, rfl, h0, h1, h2⟩ := open_agg3 Try.underlying37 (by kernel_rfl) cellsImg hv h
  obtain ⟨a0, e0, -, -⟩ := DataW.trod_int Try.underlying3 h0
  obtain ⟨a1, e1, -, -⟩ := DataW.trod_int Try.underlying3 h1
  injection e0 with e0
  injection e1 with e1
  subst e0 e1
  obtain ⟨A, len, cap, l, rfl, hS, hw, hl, hm⟩ := open_row Try.underlying35 Try.underlying53 (by kernel_rfl) bytesU h2 (fun n hn => hs n (by
    simp only [DataW.weights, Try.underlying37]
    simp [DataW.weightsEach, hn]))
  exact ⟨a0, a1, A, len, cap, l, rfl, hS, fun y hy => wf_u16 (hw y hy), hl, hm⟩
/-- what a part of the arguments weighs -/
theorem part_sized {ts : List TypeId} {ds : List (DataW H)} (hs : (DataW.weightsEach Try.prog ts ds).all (· ≤ reachBytes) = true) {j : Nat} {t : TypeId} {d : DataW H} (ht : ts[j]? = some t) (hd : ds[j]? = some d) : ∀ n ∈ d.weights Try.prog t, n ≤ reachBytes := fun n hn => by
  have := List.all_eq_true.1 hs _ (DataW.weights_mem_each ht hd n hn)
  simpa using this
end
end Go.Proofs.Ytogmlcgiajigfaa.Shl
