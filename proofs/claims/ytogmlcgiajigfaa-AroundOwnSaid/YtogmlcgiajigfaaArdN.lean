/-
  Walks: slices.Sorted of slices.Values, the median.
-/
import Derived.Sort.OwnSortedInts
import Derived.Lib.SlKeysI
import Derived.Test.YtogmlcgiajigfaaSrtI
import Derived.Test.YtogmlcgiajigfaaArdL
set_option linter.unusedVariables false
set_option linter.unusedSimpArgs false
namespace Go.Proofs.Ytogmlcgiajigfaa.Ard
open Go.RowKit K Go.Shelf

/-- numbers, rising -/
def sortF (l : List Int) : List Int := l.mergeSort fun x y => decide (x ≤ y)
theorem sortF_len (l : List Int) : (sortF l).length = l.length := List.length_mergeSort l
/-- the middle one -/
def medF (l : List Int) : Int := (sortF l).getD (l.length / 2) 0
theorem sort_any {gb cap : Nat} {zs : List Int} {cur : Array Value} (w : World) (hgb : w.heap[gb]? = some (.cells cur 3 (0, 0))) (ht : cur.toList.take zs.length = zs.map (Value.int .i64)) (hlen : zs.length < 4611686018427387904) :
    Calls Try.prog 72 #[.slice (some ⟨gb, 0, none⟩) zs.length cap] w fun e w' => e = .returned (.tuple #[]) ∧ ∃ n os, w' = Go.Sort.grow (Go.Sort.putRow (Value.int .i64) (Go.Sort.ahead w n) gb 0 (sortF zs).toArray) os :=
  AnyM.slices_Sort_int sortA gb 0 cap zs w (holds_of_block_i hgb ht) (Array.getElem?_eq_some_iff.1 hgb).1 hlen
theorem sorted_any {Bs n₀ b off cap : Nat} {zs : List Int} (w : World) (hreach : zs.length * 8 ≤ 140737488351232) (h0 : 0 < zs.length) (hBs : Bs < w.heap.size) (hn₀ : n₀ ≤ w.heap.size) (hb : b < n₀)
    (hc : w.cell? ⟨Bs, 0, none⟩ = some (.slice (some ⟨b, off, none⟩) zs.length cap)) (hI : ∀ j, j < zs.length → w.cell? ⟨b, off + j, none⟩ = some (.int .i64 (zs[j]?.getD 0))) :
    Calls Try.prog 58 #[.func (.func 73) #[] #[.pointer (some ⟨Bs, 0, none⟩)]] w fun e W' => ∃ g c, e = .returned (.slice (some ⟨g, 0, none⟩) zs.length c) ∧ W'.ownsRow w.heap.size 3 1 (.slice (some ⟨g, 0, none⟩) zs.length c) zs.length ((sortF zs).map (Value.int .i64)) ∧ Below w.heap.size w W' := by
  have H := Lib.hid (collect_any w hreach hBs hn₀ hb hc hI)
  clear hBs hn₀ hb hc hI
  go_enter Try.func58, Try.ntmps58
  go_wp2_with fail
  refine H.out.mono ?_
  rintro e w1 ⟨v, rfl, hrow, hb1⟩
  have hrow2 := hrow
  rcases hrow2.2 with ⟨rfl, hz⟩ | ⟨gb, cap2, cur, rfl, hbase, hgb, r1, r2, r3, r4⟩
  · omega
  · have HS := Lib.hid (sort_any (cap := cap2) w1 hgb (by simpa using r4) (by omega))
    have HR := Lib.hid hrow
    have HG := Lib.hid hgb
    have HN := Lib.hid r3
    clear hrow hgb r4 r3 hrow2
    go_wp2_with fail
    refine HS.out.mono ?_
    rintro e w2 ⟨rfl, nn, os, rfl⟩
    go_wp2_with fail
    go_ret
    refine ⟨gb, cap2, rfl, ?_, hb1.grown (grownBy_sorted_i _) hb1.size (fun j hj => by cases hj; exact hbase)⟩
    have := ownsRow_sorted_i (base := w.heap.size) (ss := zs) (ts := sortF zs) (os := os) (n := nn) (sortF_len zs) hbase HG.out r1 r2 HN.out
    exact this
set_option maxHeartbeats 2000000 in
theorem med_any {A B : Option Addr} {n c m d : Nat} {l : List Int} {own : Int} (w : World) (HB : SI w .i64 B m l) (h0 : 0 < m) (hm : m ≤ 4096) : Calls Try.prog 57 #[.slice A n c, .agg #[.slice B m d, .int .i64 own]] w (DoP w (medF l)) := by
  obtain ⟨b, off, x, rfl, -, -, hbl⟩ := HB.cells (i := 0) h0
  have hlen := HB.len
  have hb := (Below.refl w.heap.size w).alloc (Nat.le_refl _) (.cells #[.slice (some ⟨b, off, none⟩) m d, .int .i64 own] 80)
  have HB2 := HB.below hb (Nat.le_refl _)
  obtain ⟨W0, hW0⟩ : ∃ W0, w.alloc (.cells #[.slice (some ⟨b, off, none⟩) m d, .int .i64 own] 80) = W0 := ⟨_, rfl⟩
  have hs0 : W0.heap.size = w.heap.size + 1 := by rw [← hW0]; simp
  have HBB := Lib.hid hb
  have HS : Hid (∀ X : World, Below (W0.heap.size + 1) (W0.alloc (.cells #[.slice (some ⟨b, off, none⟩) m d] 22)) X → Calls Try.prog 58 #[.func (.func 73) #[] #[.pointer (some ⟨W0.heap.size, 0, none⟩)]] X fun e W' => ∃ g c, e = .returned (.slice (some ⟨g, 0, none⟩) m c) ∧ W'.cell? ⟨g, m / 2, none⟩ = some (.int .i64 (medF l)) ∧ Below W0.heap.size W0 W') := by
    intro X hX
    rw [hW0] at HB2
    have HB3 := (HB2.alloc (.cells #[.slice (some ⟨b, off, none⟩) m d] 22)).below hX (by simp)
    have hsz := hX.size
    rw [World.size_alloc] at hsz
    have hlt : m / 2 < m := by omega
    have := sorted_any (Bs := W0.heap.size) (n₀ := W0.heap.size) (b := b) (off := off) (cap := d) (zs := l) X (by rw [hlen]; omega) (by omega) (by omega) (by omega) (by omega) (by rw [hlen]; exact (hX.cell (p := ⟨W0.heap.size, 0, none⟩) (by simp)).trans (by simp)) (fun j hj => by
      have := si_at (A := none) (i := j) HB3 (by omega)
      rw [List.getD_eq_getElem?_getD] at this; exact this)
    refine this.mono ?_
    rintro e W' ⟨g, c, rfl, hrow, hb⟩
    rw [hlen] at hrow
    refine ⟨g, c, by rw [hlen], ?_, (((Below.refl W0.heap.size W0).alloc (Nat.le_refl _) _).trans (hX.mono (by omega))).trans (hb.mono (by omega))⟩
    have hz := si_at (A := none) (i := m / 2) (SI.of_own (l := sortF l) hrow (by show m * 8 ≤ _; omega)) hlt
    rw [Nat.zero_add] at hz
    rw [hz]; unfold medF; rw [hlen]
  obtain ⟨q, hq⟩ : ∃ q : Nat, m / 2 = q := ⟨_, rfl⟩
  rw [hq] at HS
  have i2 : (m : Int) / 2 = (q : Int) := by omega
  have i3 : (m : Int).tdiv 2 = (q : Int) := by rw [← i2]; exact Int.tdiv_eq_ediv_of_nonneg (by omega)
  have i4 : IntKind.i64.wrap (q : Int) = (q : Int) := IntWalk.i64_in _ (by omega)
  have i1 : (q : Int) < (m : Int) := by omega
  have i0 : (0 : Int) ≤ (q : Int) := by omega
  clear hq
  clear hlen HB HB2 hb
  go_enter Try.func57, Try.ntmps57
  go_upto_region 1 with (fail)
  have z0 : W0.cell? ⟨w.heap.size, 0, none⟩ = some (.slice (some ⟨b, off, none⟩) m d) := by rw [← hW0]; simp
  have hlt0 : w.heap.size < W0.heap.size := by omega
  have zB : Hid (∀ V, Below W0.heap.size W0 V → V.cell? ⟨w.heap.size, 0, none⟩ = some (.slice (some ⟨b, off, none⟩) m d)) := fun V h => (h.cell (p := ⟨w.heap.size, 0, none⟩) hlt0).trans z0
  have z1 : ∀ o, (W0.alloc o).cell? ⟨w.heap.size, 0, none⟩ = some (.slice (some ⟨b, off, none⟩) m d) := fun o => zB.out _ ((Below.refl _ _).alloc (Nat.le_refl _) o)
  rw [hW0] at HBB
  clear hW0 hs0
  go_region_with (first
    | (go_at_call 59; with_reducible refine (values_any _).mono ?_; rintro e w' ⟨rfl, rfl⟩)
    | (go_at_call 58; with_reducible refine (HS.out _ (by repeat' first | exact Below.refl _ _ | apply Below.drew)).mono ?_; rintro e w2 ⟨g, c3, rfl, zz, hbel2⟩; have HB0 := Lib.hid hbel2; have z2 := zB.out _ hbel2; clear hbel2))
  all_goals (
    go_wp2_with fail
    go_ret
    refine ⟨rfl, ?_⟩
    first
      | exact HBB.out.trans (HB0.out.mono (by omega))
      | exact HBB.out.trans ((Below.drew HB0.out).mono (by omega)))
end Go.Proofs.Ytogmlcgiajigfaa.Ard
