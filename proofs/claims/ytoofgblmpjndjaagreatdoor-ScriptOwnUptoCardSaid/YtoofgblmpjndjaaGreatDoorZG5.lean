/-
  Texts of this claim, joined by program (OpsA, Inv, OpsB, ArdR, ArdS). Walks: the tables of operators of points and moves. (Printed by gen_ops.py.)
-/
import Derived.Test.YtoofgblmpjndjaaGreatDoorZG3
import Derived.Test.YtoofgblmpjndjaaGreatDoorZG1
import Derived.Test.YtoofgblmpjndjaaGreatDoorZG4
import Derived.OrdersHeld
import Derived.Deep.RegionHeld
import Derived.Below
import Derived.RangeFuncSeq
import Derived.Shelf.Abstract
set_option linter.unusedVariables false
set_option linter.unusedSimpArgs false
namespace Go.Proofs.YtoofgblmpjndjaaGreatDoor.Scr
open Go.RowKit K Go.Lib

def allocs (w : World) : List Obj → World
 | [] => w
 | o :: r => allocs (w.alloc o) r
theorem allocs_size : ∀ (L : List Obj) (w : World), (allocs w L).heap.size = w.heap.size + L.length
 | [], w => rfl
 | o :: r, w => by
  show (allocs (w.alloc o) r).heap.size = _
  rw [allocs_size r, World.size_alloc, List.length_cons]
  omega
theorem allocs_below : ∀ (L : List Obj) (w : World) (N : Nat), N ≤ w.heap.size → Below N w (allocs w L)
 | [], w, N, h => Below.refl _ _
 | o :: r, w, N, h => ((Below.refl N w).alloc h o).trans (allocs_below r (w.alloc o) N (by rw [World.size_alloc]; omega))
theorem allocs_at : ∀ (L : List Obj) (w : World) (j : Nat) (o : Obj), L[j]? = some o → (allocs w L).heap[w.heap.size + j]? = some o
 | a :: r, w, 0, o, h => by
  injection h with h
  subst h
  exact ((allocs_below r (w.alloc a) (w.heap.size + 1) (by rw [World.size_alloc]; exact Nat.le_refl _)).block _ (by omega)).trans (heap_alloc_new w a)
 | a :: r, w, j + 1, o, h => by
  have := allocs_at r (w.alloc a) j o h
  rw [World.size_alloc] at this
  rw [show w.heap.size + (j + 1) = w.heap.size + 1 + j by omega]
  exact this
theorem sl_heap {w : World} {b : Nat} {xs : List Value} {T : TypeId} (h : w.heap[b]? = some (.cells xs.toArray T (0, 0))) : Sl w (some ⟨b, 0, none⟩) xs := fun j u hu => ⟨b, 0, rfl, by rw [Nat.zero_add, Ard.row_cell h j]; simpa using hu⟩
theorem sl_nil (w : World) (A : Option Addr) : Sl w A [] := fun j u hu => by simp at hu
structure TabAt (w : World) (g k i : Nat) (p : Tx × List (Int × Int)) (B : Option Addr) (r : List Value) : Prop where
 cs : ∀ j v, (Value.string (ba p.1) :: .slice B p.2.length p.2.length :: r)[j]? = some v → w.cell? ⟨g, i * k + j, none⟩ = some v
 bs : Sl w B (Ard.pairCells p.2)
 one : r.all (·.oneCell') = true
 len : r.length + 2 = k
theorem TabAt.on {w w' : World} {g k i : Nat} {p : Tx × List (Int × Int)} {B : Option Addr} {r : List Value} (h : TabAt w g k i p B r) (hg : g < w.heap.size) (hb : Below w.heap.size w w') : TabAt w' g k i p B r :=
 ⟨fun j v hv => (hb.cell (p := ⟨g, i * k + j, none⟩) hg).trans (h.cs j v hv), h.bs.below hb (Nat.le_refl _), h.one, h.len⟩
def TabP (w : World) (k : Nat) (t : List (Tx × List (Int × Int))) (e : Ending) (w' : World) : Prop :=
 ∃ g, e = .returned (.slice (some ⟨g, 0, none⟩) t.length t.length) ∧ w.heap.size ≤ g ∧ g < w'.heap.size ∧ Below w.heap.size w w' ∧ ∀ i p, t[i]? = some p → ∃ B r, TabAt w' g k i p B r
theorem each_new (n : Nat) (w : World) : Calls Tryz.prog 159 #[.func (.func n) #[] #[]] w fun e w' => e = .returned (.func (.func 240) #[] #[.pointer (some ⟨w.heap.size, 0, none⟩)]) ∧ w.alloc (.cells #[.func (.func n) #[] #[]] 119) = w' := by
 go_enter Tryz.func159, Tryz.ntmps159
 go_wp2
 go_ret
 exact ⟨rfl, rfl⟩
theorem three_new (n : Nat) (w : World) : Calls Tryz.prog 178 #[.func (.func n) #[] #[]] w fun e w' => e = .returned (.func (.func 243) #[] #[.pointer (some ⟨w.heap.size, 0, none⟩)]) ∧ w.alloc (.cells #[.func (.func n) #[] #[]] 204) = w' := by
 go_enter Tryz.func178, Tryz.ntmps178
 go_wp2
 go_ret
 exact ⟨rfl, rfl⟩
def popsL (s : Nat) : List Obj := [
 .cells #[.int .i64 0, .int .i64 65535] 159,
 .cells #[.int .i64 0, .int .i64 256] 159,
 .cells #[.func (.func 160) #[] #[]] 119,
 .cells #[.int .i64 0, .int .i64 65535] 159,
 .cells #[.int .i64 0, .int .i64 65535, .int .i64 0, .int .i64 65535] 159,
 .cells #[.func (.func 165) #[] #[]] 119,
 .cells #[.int .i64 0, .int .i64 65535, .int .i64 0, .int .i64 65535] 159,
 .cells #[.func (.func 167) #[] #[]] 119,
 .cells #[.int .i64 (-65535), .int .i64 65535] 159,
 .cells #[.func (.func 168) #[] #[]] 119,
 .cells #[.int .i64 0, .int .i64 65535, .int .i64 1, .int .i64 65535] 159,
 .cells #[.func (.func 169) #[] #[]] 119,
 .cells #[.int .i64 2, .int .i64 256] 159,
 .cells #[.func (.func 170) #[] #[]] 119,
 .cells #[.int .i64 0, .int .i64 65535] 159,
 .cells #[.func (.func 173) #[] #[]] 119,
 .cells #[.int .i64 1, .int .i64 3] 159,
 .cells #[.func (.func 174) #[] #[]] 119,
 .cells #[.int .i64 1, .int .i64 5] 159,
 .cells #[.int .i64 0, .int .i64 3] 159,
 .cells #[.func (.func 179) #[] #[]] 204,
 .cells #[.int .i64 0, .int .i64 65535, .int .i64 0, .int .i64 65535, .int .i64 0, .int .i64 65535, .int .i64 0, .int .i64 256] 159,
 .cells #[.func (.func 180) #[] #[]] 204,
 .cells #[.int .i64 0, .int .i64 256] 159,
 .cells #[.int .i64 0, .int .i64 65535, .int .i64 0, .int .i64 65535, .int .i64 0, .int .i64 65535] 159,
 .cells #[.int .i64 0, .int .i64 65535, .int .i64 0, .int .i64 65535, .int .i64 0, .int .i64 65535, .int .i64 0, .int .i64 65535] 159,
 .cells #[.int .i64 1, .int .i64 4096] 159,
 .cells #[.string ⟨#[105, 110, 118, 101, 114, 116]⟩, .slice none 0 0, .func (.func 240) #[] #[.pointer (some ⟨s + 2, 0, none⟩)], .string ⟨#[103, 114, 101, 121]⟩, .slice none 0 0, .func (.func 161) #[] #[], .string ⟨#[116, 104, 114, 101, 115, 104, 111, 108, 100]⟩, .slice (some ⟨s + 3, 0, none⟩) 1 1, .func (.func 164) #[] #[], .string ⟨#[108, 101, 118, 101, 108, 115]⟩, .slice (some ⟨s + 4, 0, none⟩) 2 2, .func (.func 240) #[] #[.pointer (some ⟨s + 5, 0, none⟩)], .string ⟨#[115, 113, 117, 101, 101, 122, 101]⟩, .slice (some ⟨s + 6, 0, none⟩) 2 2, .func (.func 240) #[] #[.pointer (some ⟨s + 7, 0, none⟩)], .string ⟨#[97, 100, 100]⟩, .slice (some ⟨s + 8, 0, none⟩) 1 1, .func (.func 240) #[] #[.pointer (some ⟨s + 9, 0, none⟩)], .string ⟨#[115, 99, 97, 108, 101]⟩, .slice (some ⟨s + 10, 0, none⟩) 2 2, .func (.func 240) #[] #[.pointer (some ⟨s + 11, 0, none⟩)], .string ⟨#[112, 111, 115, 116, 101, 114, 105, 122, 101]⟩, .slice (some ⟨s + 12, 0, none⟩) 1 1, .func (.func 240) #[] #[.pointer (some ⟨s + 13, 0, none⟩)], .string ⟨#[115, 111, 108, 97, 114, 105, 122, 101]⟩, .slice (some ⟨s + 14, 0, none⟩) 1 1, .func (.func 240) #[] #[.pointer (some ⟨s + 15, 0, none⟩)], .string ⟨#[103, 97, 109, 109, 97]⟩, .slice (some ⟨s + 16, 0, none⟩) 1 1, .func (.func 240) #[] #[.pointer (some ⟨s + 17, 0, none⟩)], .string ⟨#[115, 119, 97, 112]⟩, .slice (some ⟨s + 18, 0, none⟩) 1 1, .func (.func 176) #[] #[], .string ⟨#[99, 104, 97, 110, 110, 101, 108]⟩, .slice (some ⟨s + 19, 0, none⟩) 1 1, .func (.func 177) #[] #[], .string ⟨#[115, 101, 112, 105, 97]⟩, .slice none 0 0, .func (.func 243) #[] #[.pointer (some ⟨s + 20, 0, none⟩)], .string ⟨#[116, 105, 110, 116]⟩, .slice (some ⟨s + 21, 0, none⟩) 4 4, .func (.func 243) #[] #[.pointer (some ⟨s + 22, 0, none⟩)], .string ⟨#[111, 112, 97, 113, 117, 101]⟩, .slice none 0 0, .func (.func 181) #[] #[], .string ⟨#[97, 108, 112, 104, 97]⟩, .slice (some ⟨s + 23, 0, none⟩) 1 1, .func (.func 182) #[] #[], .string ⟨#[102, 108, 97, 116, 116, 101, 110]⟩, .slice (some ⟨s + 24, 0, none⟩) 3 3, .func (.func 183) #[] #[], .string ⟨#[107, 101, 121]⟩, .slice (some ⟨s + 25, 0, none⟩) 4 4, .func (.func 185) #[] #[], .string ⟨#[99, 104, 101, 99, 107, 101, 114]⟩, .slice (some ⟨s + 26, 0, none⟩) 1 1, .func (.func 187) #[] #[], .string ⟨#[102, 97, 100, 101]⟩, .slice none 0 0, .func (.func 188) #[] #[]] 123]
def mvopsL (s : Nat) : List Obj := [
 .cells #[.int .i64 1, .int .i64 4096] 159,
 .cells #[.int .i64 1, .int .i64 64] 159,
 .cells #[.int .i64 0, .int .i64 65535] 159,
 .cells #[.int .i64 0, .int .i64 4096] 159,
 .cells #[.int .i64 (-4096), .int .i64 4096] 159,
 .cells #[.int .i64 0, .int .i64 4095, .int .i64 0, .int .i64 4095, .int .i64 1, .int .i64 4096, .int .i64 1, .int .i64 4096] 159,
 .cells #[.int .i64 1, .int .i64 3] 159,
 .cells #[.int .i64 (-4096), .int .i64 4096, .int .i64 (-4096), .int .i64 4096] 159,
 .cells #[.int .i64 1, .int .i64 4096, .int .i64 1, .int .i64 4096] 159,
 .cells #[.int .i64 1, .int .i64 64] 159,
 .cells #[.int .i64 1, .int .i64 64, .int .i64 1, .int .i64 64] 159,
 .cells #[.int .i64 0, .int .i64 4096, .int .i64 0, .int .i64 4096, .int .i64 0, .int .i64 4096, .int .i64 0, .int .i64 4096] 159,
 .cells #[.int .i64 1, .int .i64 1024, .int .i64 0, .int .i64 65535, .int .i64 0, .int .i64 65535, .int .i64 0, .int .i64 65535, .int .i64 0, .int .i64 65535] 159,
 .cells #[.int .i64 1, .int .i64 64] 159,
 .cells #[.string ⟨#[99, 114, 111, 112]⟩, .slice (some ⟨s + 5, 0, none⟩) 4 4, .func (.func 189) #[] #[], .func (.func 190) #[] #[], .string ⟨#[102, 108, 105, 112]⟩, .slice none 0 0, .func (.func 191) #[] #[], .func (.func 192) #[] #[], .string ⟨#[102, 108, 111, 112]⟩, .slice none 0 0, .func (.func 191) #[] #[], .func (.func 193) #[] #[], .string ⟨#[114, 111, 116, 97, 116, 101]⟩, .slice (some ⟨s + 6, 0, none⟩) 1 1, .func (.func 194) #[] #[], .func (.func 195) #[] #[], .string ⟨#[116, 114, 97, 110, 115, 112, 111, 115, 101]⟩, .slice none 0 0, .func (.func 196) #[] #[], .func (.func 197) #[] #[], .string ⟨#[116, 114, 97, 110, 115, 118, 101, 114, 115, 101]⟩, .slice none 0 0, .func (.func 196) #[] #[], .func (.func 198) #[] #[], .string ⟨#[114, 111, 108, 108]⟩, .slice (some ⟨s + 7, 0, none⟩) 2 2, .func (.func 191) #[] #[], .func (.func 199) #[] #[], .string ⟨#[114, 101, 115, 105, 122, 101]⟩, .slice (some ⟨s + 8, 0, none⟩) 2 2, .func (.func 201) #[] #[], .func (.func 202) #[] #[], .string ⟨#[122, 111, 111, 109]⟩, .slice (some ⟨s + 9, 0, none⟩) 1 1, .func (.func 203) #[] #[], .func (.func 204) #[] #[], .string ⟨#[116, 105, 108, 101]⟩, .slice (some ⟨s + 10, 0, none⟩) 2 2, .func (.func 205) #[] #[], .func (.func 206) #[] #[], .string ⟨#[101, 120, 116, 101, 110, 100]⟩, .slice (some ⟨s + 11, 0, none⟩) 4 4, .func (.func 207) #[] #[], .func (.func 208) #[] #[], .string ⟨#[102, 114, 97, 109, 101]⟩, .slice (some ⟨s + 12, 0, none⟩) 5 5, .func (.func 210) #[] #[], .func (.func 211) #[] #[], .string ⟨#[115, 104, 114, 105, 110, 107]⟩, .slice (some ⟨s + 13, 0, none⟩) 1 1, .func (.func 212) #[] #[], .nilFunc, .string ⟨#[116, 114, 105, 109]⟩, .slice none 0 0, .func (.func 191) #[] #[], .nilFunc] 130]
set_option maxRecDepth 20000 in
set_option maxHeartbeats 8000000 in
theorem mvops_any (w : World) : Calls Tryz.prog 132 #[] w (TabP w 4 mvs) := by
 go_enter Tryz.func132, Tryz.ntmps132
 go_wp2_with fail
 go_ret
 have key : ∀ W, W = allocs w (mvopsL w.heap.size) → TabP w 4 mvs (.returned (.slice (some ⟨w.heap.size + 14, 0, none⟩) 14 14)) W := by
  rintro W rfl
  have h := fun j o (ho : (mvopsL w.heap.size)[j]? = some o) => allocs_at (mvopsL w.heap.size) w j o ho
  have hg := h 14 _ rfl
  have hc : ∀ j v, (#[.string ⟨#[99, 114, 111, 112]⟩, .slice (some ⟨w.heap.size + 5, 0, none⟩) 4 4, .func (.func 189) #[] #[], .func (.func 190) #[] #[], .string ⟨#[102, 108, 105, 112]⟩, .slice none 0 0, .func (.func 191) #[] #[], .func (.func 192) #[] #[], .string ⟨#[102, 108, 111, 112]⟩, .slice none 0 0, .func (.func 191) #[] #[], .func (.func 193) #[] #[], .string ⟨#[114, 111, 116, 97, 116, 101]⟩, .slice (some ⟨w.heap.size + 6, 0, none⟩) 1 1, .func (.func 194) #[] #[], .func (.func 195) #[] #[], .string ⟨#[116, 114, 97, 110, 115, 112, 111, 115, 101]⟩, .slice none 0 0, .func (.func 196) #[] #[], .func (.func 197) #[] #[], .string ⟨#[116, 114, 97, 110, 115, 118, 101, 114, 115, 101]⟩, .slice none 0 0, .func (.func 196) #[] #[], .func (.func 198) #[] #[], .string ⟨#[114, 111, 108, 108]⟩, .slice (some ⟨w.heap.size + 7, 0, none⟩) 2 2, .func (.func 191) #[] #[], .func (.func 199) #[] #[], .string ⟨#[114, 101, 115, 105, 122, 101]⟩, .slice (some ⟨w.heap.size + 8, 0, none⟩) 2 2, .func (.func 201) #[] #[], .func (.func 202) #[] #[], .string ⟨#[122, 111, 111, 109]⟩, .slice (some ⟨w.heap.size + 9, 0, none⟩) 1 1, .func (.func 203) #[] #[], .func (.func 204) #[] #[], .string ⟨#[116, 105, 108, 101]⟩, .slice (some ⟨w.heap.size + 10, 0, none⟩) 2 2, .func (.func 205) #[] #[], .func (.func 206) #[] #[], .string ⟨#[101, 120, 116, 101, 110, 100]⟩, .slice (some ⟨w.heap.size + 11, 0, none⟩) 4 4, .func (.func 207) #[] #[], .func (.func 208) #[] #[], .string ⟨#[102, 114, 97, 109, 101]⟩, .slice (some ⟨w.heap.size + 12, 0, none⟩) 5 5, .func (.func 210) #[] #[], .func (.func 211) #[] #[], .string ⟨#[115, 104, 114, 105, 110, 107]⟩, .slice (some ⟨w.heap.size + 13, 0, none⟩) 1 1, .func (.func 212) #[] #[], .nilFunc, .string ⟨#[116, 114, 105, 109]⟩, .slice none 0 0, .func (.func 191) #[] #[], .nilFunc] : Array Value)[j]? = some v → (allocs w (mvopsL w.heap.size)).cell? ⟨w.heap.size + 14, j, none⟩ = some v := fun j v hv => (Ard.row_cell hg j).trans hv
  refine ⟨w.heap.size + 14, rfl, by omega, by rw [allocs_size]; show _ < _ + 15; omega, allocs_below _ _ _ (Nat.le_refl _), ?_⟩
  intro i p hp
  match i, hp with
  | 0, hp =>
   injection hp with hp
   subst hp
   refine ⟨(some ⟨w.heap.size + 5, 0, none⟩), [.func (.func 189) #[] #[], .func (.func 190) #[] #[]], ⟨fun j v hv => ?_, sl_heap (xs := Ard.pairCells _) (h 5 _ rfl), rfl, rfl⟩⟩
   match j, hv with
   | 0, hv => exact hc 0 v hv
   | 1, hv => exact hc 1 v hv
   | 2, hv => exact hc 2 v hv
   | 3, hv => exact hc 3 v hv
  | 1, hp =>
   injection hp with hp
   subst hp
   refine ⟨none, [.func (.func 191) #[] #[], .func (.func 192) #[] #[]], ⟨fun j v hv => ?_, sl_nil _ _, rfl, rfl⟩⟩
   match j, hv with
   | 0, hv => exact hc 4 v hv
   | 1, hv => exact hc 5 v hv
   | 2, hv => exact hc 6 v hv
   | 3, hv => exact hc 7 v hv
  | 2, hp =>
   injection hp with hp
   subst hp
   refine ⟨none, [.func (.func 191) #[] #[], .func (.func 193) #[] #[]], ⟨fun j v hv => ?_, sl_nil _ _, rfl, rfl⟩⟩
   match j, hv with
   | 0, hv => exact hc 8 v hv
   | 1, hv => exact hc 9 v hv
   | 2, hv => exact hc 10 v hv
   | 3, hv => exact hc 11 v hv
  | 3, hp =>
   injection hp with hp
   subst hp
   refine ⟨(some ⟨w.heap.size + 6, 0, none⟩), [.func (.func 194) #[] #[], .func (.func 195) #[] #[]], ⟨fun j v hv => ?_, sl_heap (xs := Ard.pairCells _) (h 6 _ rfl), rfl, rfl⟩⟩
   match j, hv with
   | 0, hv => exact hc 12 v hv
   | 1, hv => exact hc 13 v hv
   | 2, hv => exact hc 14 v hv
   | 3, hv => exact hc 15 v hv
  | 4, hp =>
   injection hp with hp
   subst hp
   refine ⟨none, [.func (.func 196) #[] #[], .func (.func 197) #[] #[]], ⟨fun j v hv => ?_, sl_nil _ _, rfl, rfl⟩⟩
   match j, hv with
   | 0, hv => exact hc 16 v hv
   | 1, hv => exact hc 17 v hv
   | 2, hv => exact hc 18 v hv
   | 3, hv => exact hc 19 v hv
  | 5, hp =>
   injection hp with hp
   subst hp
   refine ⟨none, [.func (.func 196) #[] #[], .func (.func 198) #[] #[]], ⟨fun j v hv => ?_, sl_nil _ _, rfl, rfl⟩⟩
   match j, hv with
   | 0, hv => exact hc 20 v hv
   | 1, hv => exact hc 21 v hv
   | 2, hv => exact hc 22 v hv
   | 3, hv => exact hc 23 v hv
  | 6, hp =>
   injection hp with hp
   subst hp
   refine ⟨(some ⟨w.heap.size + 7, 0, none⟩), [.func (.func 191) #[] #[], .func (.func 199) #[] #[]], ⟨fun j v hv => ?_, sl_heap (xs := Ard.pairCells _) (h 7 _ rfl), rfl, rfl⟩⟩
   match j, hv with
   | 0, hv => exact hc 24 v hv
   | 1, hv => exact hc 25 v hv
   | 2, hv => exact hc 26 v hv
   | 3, hv => exact hc 27 v hv
  | 7, hp =>
   injection hp with hp
   subst hp
   refine ⟨(some ⟨w.heap.size + 8, 0, none⟩), [.func (.func 201) #[] #[], .func (.func 202) #[] #[]], ⟨fun j v hv => ?_, sl_heap (xs := Ard.pairCells _) (h 8 _ rfl), rfl, rfl⟩⟩
   match j, hv with
   | 0, hv => exact hc 28 v hv
   | 1, hv => exact hc 29 v hv
   | 2, hv => exact hc 30 v hv
   | 3, hv => exact hc 31 v hv
  | 8, hp =>
   injection hp with hp
   subst hp
   refine ⟨(some ⟨w.heap.size + 9, 0, none⟩), [.func (.func 203) #[] #[], .func (.func 204) #[] #[]], ⟨fun j v hv => ?_, sl_heap (xs := Ard.pairCells _) (h 9 _ rfl), rfl, rfl⟩⟩
   match j, hv with
   | 0, hv => exact hc 32 v hv
   | 1, hv => exact hc 33 v hv
   | 2, hv => exact hc 34 v hv
   | 3, hv => exact hc 35 v hv
  | 9, hp =>
   injection hp with hp
   subst hp
   refine ⟨(some ⟨w.heap.size + 10, 0, none⟩), [.func (.func 205) #[] #[], .func (.func 206) #[] #[]], ⟨fun j v hv => ?_, sl_heap (xs := Ard.pairCells _) (h 10 _ rfl), rfl, rfl⟩⟩
   match j, hv with
   | 0, hv => exact hc 36 v hv
   | 1, hv => exact hc 37 v hv
   | 2, hv => exact hc 38 v hv
   | 3, hv => exact hc 39 v hv
  | 10, hp =>
   injection hp with hp
   subst hp
   refine ⟨(some ⟨w.heap.size + 11, 0, none⟩), [.func (.func 207) #[] #[], .func (.func 208) #[] #[]], ⟨fun j v hv => ?_, sl_heap (xs := Ard.pairCells _) (h 11 _ rfl), rfl, rfl⟩⟩
   match j, hv with
   | 0, hv => exact hc 40 v hv
   | 1, hv => exact hc 41 v hv
   | 2, hv => exact hc 42 v hv
   | 3, hv => exact hc 43 v hv
  | 11, hp =>
   injection hp with hp
   subst hp
   refine ⟨(some ⟨w.heap.size + 12, 0, none⟩), [.func (.func 210) #[] #[], .func (.func 211) #[] #[]], ⟨fun j v hv => ?_, sl_heap (xs := Ard.pairCells _) (h 12 _ rfl), rfl, rfl⟩⟩
   match j, hv with
   | 0, hv => exact hc 44 v hv
   | 1, hv => exact hc 45 v hv
   | 2, hv => exact hc 46 v hv
   | 3, hv => exact hc 47 v hv
  | 12, hp =>
   injection hp with hp
   subst hp
   refine ⟨(some ⟨w.heap.size + 13, 0, none⟩), [.func (.func 212) #[] #[], .nilFunc], ⟨fun j v hv => ?_, sl_heap (xs := Ard.pairCells _) (h 13 _ rfl), rfl, rfl⟩⟩
   match j, hv with
   | 0, hv => exact hc 48 v hv
   | 1, hv => exact hc 49 v hv
   | 2, hv => exact hc 50 v hv
   | 3, hv => exact hc 51 v hv
  | 13, hp =>
   injection hp with hp
   subst hp
   refine ⟨none, [.func (.func 191) #[] #[], .nilFunc], ⟨fun j v hv => ?_, sl_nil _ _, rfl, rfl⟩⟩
   match j, hv with
   | 0, hv => exact hc 52 v hv
   | 1, hv => exact hc 53 v hv
   | 2, hv => exact hc 54 v hv
   | 3, hv => exact hc 55 v hv
  | i + 14, hp => simp [mvs] at hp
 exact key _ rfl
end Go.Proofs.YtoofgblmpjndjaaGreatDoor.Scr
set_option linter.unusedVariables false
set_option linter.unusedSimpArgs false
namespace Go.Proofs.YtoofgblmpjndjaaGreatDoor.Inv
open Go.RowKit

section
variable {P : Program} {ops : Array Oper} {Q : Exit → Act → World → Prop} {md : Region.Mode}
def todo (L : Array Bool) : Nat := (L.toList.filter (! ·)).length
theorem filter_set : ∀ (l : List Bool) (i : Nat), l[i]? = some false → ((l.set i true).filter (! ·)).length + 1 = (l.filter (! ·)).length
 | [], i, h => by simp at h
 | b :: l, 0, h => by
  injection h with h
  subst h
  simp
 | b :: l, i + 1, h => by
  have := filter_set l i h
  rw [List.set_cons_succ, List.filter_cons, List.filter_cons]
  split <;> simp_all
theorem todo_set {L : Array Bool} {i : Nat} (h : L.getD i true = false) : todo (L.setIfInBounds i true) + 1 = todo L := by
 unfold todo
 have h1 : L.toList[i]? = some false := by
  rw [Array.getElem?_toList]
  rcases Nat.lt_or_ge i L.size with hl | hl
  ·rw [Array.getElem?_eq_getElem hl]
   simp [hl] at h
   rw [h]
  ·simp [Array.getElem?_eq_none hl] at h
 rw [Array.toList_setIfInBounds]
 exact filter_set _ _ h1
theorem wpAny_inv {S : Array Bool → Act → World → Prop}
  (hstep : ∀ L a w, L.size = ops.size → S L a w → ∀ i ∈ Region.ready md ops L, wpOp P ops Q i (fun a' w' => S (L.setIfInBounds i true) a' w') a w)
  (hend : ∀ L a w, L.size = ops.size → Region.ready md ops L = [] → S L a w → Q .normal a w) :
  ∀ (f : Nat) (L : Array Bool) (a : Act) (w : World), L.size = ops.size → todo L ≤ f → S L a w → wpAny P md ops Q f L a w
 | 0, L, a, w, hs, hf, h => by
  have hr : Region.ready md ops L = [] := by
   refine List.eq_nil_iff_forall_not_mem.2 fun i hi => ?_
   have := todo_set (mem_ready.1 hi).1
   omega
  exact ⟨hr, hend L a w hs hr h⟩
 | f + 1, L, a, w, hs, hf, h => by
  refine ⟨fun hr => hend L a w hs hr h, fun i hi => ?_⟩
  have ht := todo_set (mem_ready.1 hi).1
  exact wpOp_mono (fun a' w' h' => wpAny_inv hstep hend f _ a' w' (by simp [hs]) (by omega) h') (hstep L a w hs h i hi)
def forward (md : Region.Mode) (ops : Array Oper) : Bool := (List.range ops.size).all fun i => ((ops[i]?).map fun o => o.after.all fun e => !Region.binds md e || decide (e.on < i)).getD true
theorem all_listed (hF : forward md ops = true) {L : Array Bool} (hs : L.size = ops.size) (hr : Region.ready md ops L = []) : ∀ i, i < ops.size → L.getD i false = true := by
 intro i
 induction i using Nat.strongRecOn with
 | _ i ih =>
  intro hi
  have hL : i < L.size := by omega
  cases hv : L.getD i true with
  | true =>
   simp [hL] at hv ⊢
   exact hv
  | false =>
   exfalso
   have hmem : i ∈ Region.ready md ops L := by
    refine mem_ready.2 ⟨hv, ops[i], Array.getElem?_eq_getElem hi, fun e he hb => ?_⟩
    have h1 := List.all_eq_true.1 hF i (List.mem_range.2 hi)
    rw [Array.getElem?_eq_getElem hi] at h1
    simp only [Option.map_some, Option.getD_some] at h1
    rw [Array.all_eq_true_iff_forall_mem] at h1
    have h2 := h1 e he
    rw [hb] at h2
    simp at h2
    exact ih e.on h2 (by omega)
   rw [hr] at hmem
   cases hmem
theorem region_inv {S : Array Bool → Act → World → Prop} {id : Nat} {a : Act} {w : World} (hm : P.follows .mixedOrders = true)
  (h0 : S (Array.replicate ops.size false) a w.drew)
  (hstep : ∀ L a w, L.size = ops.size → S L a w → ∀ i ∈ Region.ready .any ops L, wpOp P ops Q i (fun a' w' => S (L.setIfInBounds i true) a' w') a w)
  (hend : ∀ L a w, L.size = ops.size → Region.ready .any ops L = [] → S L a w → Q .normal a w) : (Code.region id ops true).wp P Q a w :=
 wp_region_any hm (wpAny_inv hstep hend _ _ _ _ (by simp) (by unfold todo; exact Nat.le_trans (List.length_filter_le _ _) (by simp)) h0)
theorem wpOp_do {i : Nat} {o : Oper} {a : Act} {w : World} {K : Act → World → Prop} (ho : ops[i]? = some o) (hg : o.guard = none) (h : o.wp P a w K Q) : wpOp P ops Q i K a w := by
 unfold wpOp
 rw [ho]
 simp only
 rw [if_pos (by simp [Region.wanted, hg])]
 exact .inl h
def waits (md : Region.Mode) (ops : Array Oper) (i j : Nat) : Bool := ((ops[i]?).map fun o => o.after.any fun e => Region.binds md e && e.on == j).getD false
theorem dep {L : Array Bool} {i : Nat} (hi : i ∈ Region.ready md ops L) (j : Nat) (h : waits md ops i j = true) : L.getD j false = true := by
 obtain ⟨-, o, ho, hall⟩ := mem_ready.1 hi
 unfold waits at h
 rw [ho] at h
 simp only [Option.map_some, Option.getD_some] at h
 obtain ⟨n, hn, hb⟩ := Array.any_eq_true.1 h
 simp only [Bool.and_eq_true, beq_iff_eq] at hb
 rw [← hb.2]
 exact hall _ (Array.getElem_mem hn) hb.1
structure SL (n : Nat) (dst : Nat → Nat) (T : Nat) (G : Nat → Value → World → Prop) (Fx : Nat → Value → Prop) (w0 : World) (L : Array Bool) (a : Act) (w : World) : Prop where
 bel : Below w0.heap.size w0 w
 sz : a.tmps.size = T
 df : a.defers = []
 fx : ∀ i, (∀ j, j < n → dst j ≠ i) → Fx i ((a.tmps[i]?).getD undef)
 done : ∀ i, i < n → L.getD i false = true → G i ((a.tmps[dst i]?).getD undef) w
theorem SL.step {n T : Nat} {dst : Nat → Nat} {G : Nat → Value → World → Prop} {Fx : Nat → Value → Prop} {w0 w w' : World} {L : Array Bool} {a : Act} (h : SL n dst T G Fx w0 L a w) {i : Nat} {v : Value} (hi : i < n) (hiL : i < L.size) (hd : ∀ j, j < n → j ≠ i → dst j ≠ dst i) (hT : dst i < T)
  (mono : ∀ j v w w', G j v w → Below w.heap.size w w' → G j v w') (hb : Below w.heap.size w w') (hv : G i v w') : SL n dst T G Fx w0 (L.setIfInBounds i true) { tmps := a.tmps.setIfInBounds (dst i) v, defers := a.defers } w' := by
 refine ⟨h.bel.trans (hb.mono h.bel.size), by simp [h.sz], h.df, fun k hk => ?_, fun j hj hl => ?_⟩
 ·have hne : dst i ≠ k := hk i hi
  have := h.fx k hk
  simp only [Array.getElem?_setIfInBounds, if_neg hne]
  exact this
 ·by_cases hji : j = i
  ·subst hji
   have : dst j < a.tmps.size := by rw [h.sz]; exact hT
   simp only [Array.getElem?_setIfInBounds, if_true, this]
   exact hv
  ·have hne : dst i ≠ dst j := fun e => hd j hj hji e.symm
   simp only [Array.getElem?_setIfInBounds, if_neg hne]
   refine mono j _ w w' (h.done j hj ?_) hb
   rw [Go.getD_set_ne false (fun e => hji e.symm)] at hl
   exact hl
end
end Go.Proofs.YtoofgblmpjndjaaGreatDoor.Inv
set_option linter.unusedVariables false
set_option linter.unusedSimpArgs false
namespace Go.Proofs.YtoofgblmpjndjaaGreatDoor.Scr
open Go.RowKit K Go.Lib

inductive Sp where
 | any
 | eq (v : Value)
 | sl (l : List (Int × Int))
 | fn
 | row (p : Tx × List (Int × Int))
 | tab
def Sp.ok (n0 : Nat) : Sp → Value → World → Prop
 | .any, _, _ => True
 | .eq v, u, _ => u = v
 | .sl l, u, w => ∃ b, u = .slice (some ⟨b, 0, none⟩) l.length l.length ∧ Sl w (some ⟨b, 0, none⟩) (Ard.pairCells l)
 | .fn, u, _ => ∃ m b, u = .func (.func m) #[] #[.pointer (some ⟨b, 0, none⟩)]
 | .row p, u, w => ∃ B m c, u = .agg #[.string (ba p.1), .slice B p.2.length p.2.length, .func (.func m) #[] c] ∧ Sl w B (Ard.pairCells p.2)
 | .tab, u, w => ∃ g, u = .slice (some ⟨g, 0, none⟩) 20 20 ∧ n0 ≤ g ∧ g < w.heap.size ∧ ∀ i p, pts[i]? = some p → ∃ B r, TabAt w g 3 i p B r
theorem Sp.mono (n0 : Nat) : ∀ (s : Sp) (v : Value) (w w' : World), s.ok n0 v w → Below w.heap.size w w' → s.ok n0 v w'
 | .any, _, _, _, _, _ => trivial
 | .eq _, _, _, _, h, _ => h
 | .sl _, _, _, _, ⟨b, h1, h2⟩, hb => ⟨b, h1, h2.below hb (Nat.le_refl _)⟩
 | .fn, _, _, _, h, _ => h
 | .row _, _, _, _, ⟨B, m, c, h1, h2⟩, hb => ⟨B, m, c, h1, h2.below hb (Nat.le_refl _)⟩
 | .tab, _, _, _, ⟨g, h1, h2, h3, h4⟩, hb => ⟨g, h1, h2, Nat.lt_of_lt_of_le h3 hb.size, fun i p hp => by
  obtain ⟨B, r, h⟩ := h4 i p hp
  exact ⟨B, r, h.on h3 hb⟩⟩
def pSpecs : List Sp := [
 .fn,
 .row ([105, 110, 118, 101, 114, 116], []),
 .row ([103, 114, 101, 121], []),
 .eq (.agg #[.int .i64 0, .int .i64 65535]),
 .sl [(0, 65535)],
 .row ([116, 104, 114, 101, 115, 104, 111, 108, 100], [(0, 65535)]),
 .eq (.agg #[.int .i64 0, .int .i64 65535]),
 .eq (.agg #[.int .i64 0, .int .i64 65535]),
 .sl [(0, 65535), (0, 65535)],
 .fn,
 .row ([108, 101, 118, 101, 108, 115], [(0, 65535), (0, 65535)]),
 .eq (.agg #[.int .i64 0, .int .i64 65535]),
 .eq (.agg #[.int .i64 0, .int .i64 65535]),
 .sl [(0, 65535), (0, 65535)],
 .fn,
 .row ([115, 113, 117, 101, 101, 122, 101], [(0, 65535), (0, 65535)]),
 .eq (.agg #[.int .i64 (-65535), .int .i64 65535]),
 .sl [((-65535), 65535)],
 .fn,
 .row ([97, 100, 100], [((-65535), 65535)]),
 .eq (.agg #[.int .i64 0, .int .i64 65535]),
 .eq (.agg #[.int .i64 1, .int .i64 65535]),
 .sl [(0, 65535), (1, 65535)],
 .fn,
 .row ([115, 99, 97, 108, 101], [(0, 65535), (1, 65535)]),
 .eq (.agg #[.int .i64 2, .int .i64 256]),
 .sl [(2, 256)],
 .fn,
 .row ([112, 111, 115, 116, 101, 114, 105, 122, 101], [(2, 256)]),
 .eq (.agg #[.int .i64 0, .int .i64 65535]),
 .sl [(0, 65535)],
 .fn,
 .row ([115, 111, 108, 97, 114, 105, 122, 101], [(0, 65535)]),
 .eq (.agg #[.int .i64 1, .int .i64 3]),
 .sl [(1, 3)],
 .fn,
 .row ([103, 97, 109, 109, 97], [(1, 3)]),
 .eq (.agg #[.int .i64 1, .int .i64 5]),
 .sl [(1, 5)],
 .row ([115, 119, 97, 112], [(1, 5)]),
 .eq (.agg #[.int .i64 0, .int .i64 3]),
 .sl [(0, 3)],
 .row ([99, 104, 97, 110, 110, 101, 108], [(0, 3)]),
 .fn,
 .row ([115, 101, 112, 105, 97], []),
 .eq (.agg #[.int .i64 0, .int .i64 65535]),
 .eq (.agg #[.int .i64 0, .int .i64 65535]),
 .eq (.agg #[.int .i64 0, .int .i64 65535]),
 .eq (.agg #[.int .i64 0, .int .i64 256]),
 .sl [(0, 65535), (0, 65535), (0, 65535), (0, 256)],
 .fn,
 .row ([116, 105, 110, 116], [(0, 65535), (0, 65535), (0, 65535), (0, 256)]),
 .row ([111, 112, 97, 113, 117, 101], []),
 .eq (.agg #[.int .i64 0, .int .i64 256]),
 .sl [(0, 256)],
 .row ([97, 108, 112, 104, 97], [(0, 256)]),
 .eq (.agg #[.int .i64 0, .int .i64 65535]),
 .eq (.agg #[.int .i64 0, .int .i64 65535]),
 .eq (.agg #[.int .i64 0, .int .i64 65535]),
 .sl [(0, 65535), (0, 65535), (0, 65535)],
 .row ([102, 108, 97, 116, 116, 101, 110], [(0, 65535), (0, 65535), (0, 65535)]),
 .eq (.agg #[.int .i64 0, .int .i64 65535]),
 .eq (.agg #[.int .i64 0, .int .i64 65535]),
 .eq (.agg #[.int .i64 0, .int .i64 65535]),
 .eq (.agg #[.int .i64 0, .int .i64 65535]),
 .sl [(0, 65535), (0, 65535), (0, 65535), (0, 65535)],
 .row ([107, 101, 121], [(0, 65535), (0, 65535), (0, 65535), (0, 65535)]),
 .eq (.agg #[.int .i64 1, .int .i64 4096]),
 .sl [(1, 4096)],
 .row ([99, 104, 101, 99, 107, 101, 114], [(1, 4096)]),
 .row ([102, 97, 100, 101], []),
 .tab,
 .tab]
def pG (n0 i : Nat) (v : Value) (w : World) : Prop := (pSpecs.getD i .any).ok n0 v w
def pDst (i : Nat) : Nat := if i = 72 then 0 else i + 5
def pFx (n0 i : Nat) (v : Value) : Prop := (i = 1 → v = .pointer (some ⟨n0, 0, none⟩)) ∧ (i = 2 → v = .pointer (some ⟨n0 + 1, 0, none⟩))
theorem pDst_ne {i j : Nat} (hi : i < 73) (hj : j < 73) (h : j ≠ i) : pDst j ≠ pDst i := by unfold pDst; split <;> split <;> omega
set_option maxRecDepth 100000 in
set_option maxHeartbeats 8000000 in
theorem pops_any (w : World) : Calls Tryz.prog 131 #[] w (TabP w 3 pts) := by
 go_enter Tryz.func131, Tryz.ntmps131
 go_wp2_with fail
 simp only [List.append_eq, List.cons_append, List.nil_append]
 obtain ⟨W, hW⟩ : ∃ W, (w.alloc (.cells #[.int .i64 0, .int .i64 65535] 159)).alloc (.cells #[.int .i64 0, .int .i64 256] 159) = W := ⟨_, rfl⟩
 have hWb : Below w.heap.size w W := by rw [← hW]; exact ((Below.refl _ w).alloc (Nat.le_refl _) _).alloc (by simp) _
 have hWs : W.heap.size = w.heap.size + 2 := by rw [← hW]; simp
 have hW0 : W.heap[w.heap.size]? = some (.cells #[.int .i64 0, .int .i64 65535] 159 (0, 0)) := by rw [← hW]; exact (heap_alloc_old _ _ (by simp)).trans (heap_alloc_new w _)
 have hW1 : W.heap[w.heap.size + 1]? = some (.cells #[.int .i64 0, .int .i64 256] 159 (0, 0)) := by
  rw [← hW]
  have := heap_alloc_new (w.alloc (.cells #[.int .i64 0, .int .i64 65535] 159)) (.cells #[.int .i64 0, .int .i64 256] 159)
  rwa [World.size_alloc] at this
 rw [hW]
 clear hW
 refine Inv.region_inv (S := Inv.SL 73 pDst 77 (pG w.heap.size) (pFx w.heap.size) W) (by kernel_rfl) ⟨(Below.refl _ _).drew, rfl, rfl, fun i hi => ?_, fun i hi hl => ?_⟩ ?_ ?_
 ·refine ⟨?_, ?_⟩ <;> (rintro rfl; rfl)
 ·exfalso
  rw [Array.getD_eq_getD_getElem?, Array.getElem?_replicate] at hl
  split at hl <;> cases hl
 ·intro L a V hs hS i hi
  have hin : i < 73 := by
   obtain ⟨-, o, ho, -⟩ := mem_ready.1 hi
   exact (Array.getElem?_eq_some_iff.1 ho).1
  have hiL : i < L.size := by rw [hs]; exact hin
  have hT : pDst i < 77 := by unfold pDst; split <;> omega
  have hstep : ∀ (v : Value) (V' : World), Below V.heap.size V V' → pG w.heap.size i v V' → Inv.SL 73 pDst 77 (pG w.heap.size) (pFx w.heap.size) W (L.setIfInBounds i true) { tmps := a.tmps.setIfInBounds (pDst i) v, defers := a.defers } V' :=
   fun v V' hb hv => hS.step hin hiL (fun j hj hne => pDst_ne hin hj hne) hT (fun j v w w' h hb => Sp.mono _ _ v w w' h hb) hb hv
  have e1 : (a.tmps[1]?).getD undef = .pointer (some ⟨w.heap.size, 0, none⟩) := (hS.fx 1 (fun j hj => by unfold pDst; split <;> omega)).1 rfl
  have e2 : (a.tmps[2]?).getD undef = .pointer (some ⟨w.heap.size + 1, 0, none⟩) := (hS.fx 2 (fun j hj => by unfold pDst; split <;> omega)).2 rfl
  have hV0 := (hS.bel.block w.heap.size (by omega)).trans hW0
  have hV1 := (hS.bel.block (w.heap.size + 1) (by omega)).trans hW1
  have y0 : V.cell? ⟨w.heap.size, 0, none⟩ = some (.int .i64 0) := Ard.row_cell hV0 0
  have y1 : V.cell? ⟨w.heap.size, 1, none⟩ = some (.int .i64 65535) := Ard.row_cell hV0 1
  have y2 : V.cell? ⟨w.heap.size + 1, 0, none⟩ = some (.int .i64 0) := Ard.row_cell hV1 0
  have y3 : V.cell? ⟨w.heap.size + 1, 1, none⟩ = some (.int .i64 256) := Ard.row_cell hV1 1
  have HS := Lib.hid hS
  have HI := Lib.hid hi
  have HST := Lib.hid hstep
  have HVS : Hid (w.heap.size ≤ V.heap.size) := by show _ ≤ _; have := hS.bel.size; omega
  clear hS hi hstep hV0 hV1 hs hT hiL hWb hWs hW0 hW1
  match i, HI, HST, hin with
  | 0, HI, HST, hin =>
   refine Inv.wpOp_do rfl rfl ?_
   go_simp
   refine (each_new _ _).mono ?_
   rintro e V' ⟨rfl, rfl⟩
   exact HST.out _ _ ((Below.refl _ V).alloc (Nat.le_refl _) _) ⟨_, _, rfl⟩
  | 1, HI, HST, hin =>
   obtain ⟨m, b2, s2⟩ := HS.out.done 0 (by omega) (Inv.dep HI.out 0 (by kernel_rfl))
   replace s2 : (a.tmps[5]?).getD undef = _ := s2
   refine Inv.wpOp_do rfl rfl ?_
   go_simp
   exact HST.out _ _ (Below.refl _ _) ⟨_, _, _, rfl, sl_nil _ _⟩
  | 2, HI, HST, hin =>
   refine Inv.wpOp_do rfl rfl ?_
   go_simp
   exact HST.out _ _ (Below.refl _ _) ⟨_, _, _, rfl, sl_nil _ _⟩
  | 3, HI, HST, hin =>
   refine Inv.wpOp_do rfl rfl ?_
   go_simp
   exact HST.out _ _ (Below.refl _ _) rfl
  | 4, HI, HST, hin =>
   have s8 : (a.tmps[8]?).getD undef = _ := HS.out.done 3 (by omega) (Inv.dep HI.out 3 (by kernel_rfl))
   refine Inv.wpOp_do rfl rfl ?_
   go_simp
   exact HST.out _ _ ((Below.refl _ V).alloc (Nat.le_refl _) _) ⟨_, rfl, sl_heap (heap_alloc_new V _)⟩
  | 5, HI, HST, hin =>
   obtain ⟨b, s1, hsl⟩ := HS.out.done 4 (by omega) (Inv.dep HI.out 4 (by kernel_rfl))
   replace s1 : (a.tmps[9]?).getD undef = _ := s1
   simp only [List.length_cons, List.length_nil, Nat.reduceAdd] at s1
   have HSL := Lib.hid hsl
   clear hsl
   refine Inv.wpOp_do rfl rfl ?_
   go_simp
   exact HST.out _ _ (Below.refl _ _) ⟨_, _, _, rfl, HSL.out⟩
  | 6, HI, HST, hin =>
   refine Inv.wpOp_do rfl rfl ?_
   go_simp
   exact HST.out _ _ (Below.refl _ _) rfl
  | 7, HI, HST, hin =>
   refine Inv.wpOp_do rfl rfl ?_
   go_simp
   exact HST.out _ _ (Below.refl _ _) rfl
  | 8, HI, HST, hin =>
   have s11 : (a.tmps[11]?).getD undef = _ := HS.out.done 6 (by omega) (Inv.dep HI.out 6 (by kernel_rfl))
   have s12 : (a.tmps[12]?).getD undef = _ := HS.out.done 7 (by omega) (Inv.dep HI.out 7 (by kernel_rfl))
   refine Inv.wpOp_do rfl rfl ?_
   go_simp
   exact HST.out _ _ ((Below.refl _ V).alloc (Nat.le_refl _) _) ⟨_, rfl, sl_heap (heap_alloc_new V _)⟩
  | 9, HI, HST, hin =>
   refine Inv.wpOp_do rfl rfl ?_
   go_simp
   refine (each_new _ _).mono ?_
   rintro e V' ⟨rfl, rfl⟩
   exact HST.out _ _ ((Below.refl _ V).alloc (Nat.le_refl _) _) ⟨_, _, rfl⟩
  | 10, HI, HST, hin =>
   obtain ⟨b, s1, hsl⟩ := HS.out.done 8 (by omega) (Inv.dep HI.out 8 (by kernel_rfl))
   replace s1 : (a.tmps[13]?).getD undef = _ := s1
   simp only [List.length_cons, List.length_nil, Nat.reduceAdd] at s1
   have HSL := Lib.hid hsl
   clear hsl
   obtain ⟨m, b2, s2⟩ := HS.out.done 9 (by omega) (Inv.dep HI.out 9 (by kernel_rfl))
   replace s2 : (a.tmps[14]?).getD undef = _ := s2
   refine Inv.wpOp_do rfl rfl ?_
   go_simp
   exact HST.out _ _ (Below.refl _ _) ⟨_, _, _, rfl, HSL.out⟩
  | 11, HI, HST, hin =>
   refine Inv.wpOp_do rfl rfl ?_
   go_simp
   exact HST.out _ _ (Below.refl _ _) rfl
  | 12, HI, HST, hin =>
   refine Inv.wpOp_do rfl rfl ?_
   go_simp
   exact HST.out _ _ (Below.refl _ _) rfl
  | 13, HI, HST, hin =>
   have s16 : (a.tmps[16]?).getD undef = _ := HS.out.done 11 (by omega) (Inv.dep HI.out 11 (by kernel_rfl))
   have s17 : (a.tmps[17]?).getD undef = _ := HS.out.done 12 (by omega) (Inv.dep HI.out 12 (by kernel_rfl))
   refine Inv.wpOp_do rfl rfl ?_
   go_simp
   exact HST.out _ _ ((Below.refl _ V).alloc (Nat.le_refl _) _) ⟨_, rfl, sl_heap (heap_alloc_new V _)⟩
  | 14, HI, HST, hin =>
   refine Inv.wpOp_do rfl rfl ?_
   go_simp
   refine (each_new _ _).mono ?_
   rintro e V' ⟨rfl, rfl⟩
   exact HST.out _ _ ((Below.refl _ V).alloc (Nat.le_refl _) _) ⟨_, _, rfl⟩
  | 15, HI, HST, hin =>
   obtain ⟨b, s1, hsl⟩ := HS.out.done 13 (by omega) (Inv.dep HI.out 13 (by kernel_rfl))
   replace s1 : (a.tmps[18]?).getD undef = _ := s1
   simp only [List.length_cons, List.length_nil, Nat.reduceAdd] at s1
   have HSL := Lib.hid hsl
   clear hsl
   obtain ⟨m, b2, s2⟩ := HS.out.done 14 (by omega) (Inv.dep HI.out 14 (by kernel_rfl))
   replace s2 : (a.tmps[19]?).getD undef = _ := s2
   refine Inv.wpOp_do rfl rfl ?_
   go_simp
   exact HST.out _ _ (Below.refl _ _) ⟨_, _, _, rfl, HSL.out⟩
  | 16, HI, HST, hin =>
   refine Inv.wpOp_do rfl rfl ?_
   go_simp
   exact HST.out _ _ (Below.refl _ _) rfl
  | 17, HI, HST, hin =>
   have s21 : (a.tmps[21]?).getD undef = _ := HS.out.done 16 (by omega) (Inv.dep HI.out 16 (by kernel_rfl))
   refine Inv.wpOp_do rfl rfl ?_
   go_simp
   exact HST.out _ _ ((Below.refl _ V).alloc (Nat.le_refl _) _) ⟨_, rfl, sl_heap (heap_alloc_new V _)⟩
  | 18, HI, HST, hin =>
   refine Inv.wpOp_do rfl rfl ?_
   go_simp
   refine (each_new _ _).mono ?_
   rintro e V' ⟨rfl, rfl⟩
   exact HST.out _ _ ((Below.refl _ V).alloc (Nat.le_refl _) _) ⟨_, _, rfl⟩
  | 19, HI, HST, hin =>
   obtain ⟨b, s1, hsl⟩ := HS.out.done 17 (by omega) (Inv.dep HI.out 17 (by kernel_rfl))
   replace s1 : (a.tmps[22]?).getD undef = _ := s1
   simp only [List.length_cons, List.length_nil, Nat.reduceAdd] at s1
   have HSL := Lib.hid hsl
   clear hsl
   obtain ⟨m, b2, s2⟩ := HS.out.done 18 (by omega) (Inv.dep HI.out 18 (by kernel_rfl))
   replace s2 : (a.tmps[23]?).getD undef = _ := s2
   refine Inv.wpOp_do rfl rfl ?_
   go_simp
   exact HST.out _ _ (Below.refl _ _) ⟨_, _, _, rfl, HSL.out⟩
  | 20, HI, HST, hin =>
   refine Inv.wpOp_do rfl rfl ?_
   go_simp
   exact HST.out _ _ (Below.refl _ _) rfl
  | 21, HI, HST, hin =>
   refine Inv.wpOp_do rfl rfl ?_
   go_simp
   exact HST.out _ _ (Below.refl _ _) rfl
  | 22, HI, HST, hin =>
   have s25 : (a.tmps[25]?).getD undef = _ := HS.out.done 20 (by omega) (Inv.dep HI.out 20 (by kernel_rfl))
   have s26 : (a.tmps[26]?).getD undef = _ := HS.out.done 21 (by omega) (Inv.dep HI.out 21 (by kernel_rfl))
   refine Inv.wpOp_do rfl rfl ?_
   go_simp
   exact HST.out _ _ ((Below.refl _ V).alloc (Nat.le_refl _) _) ⟨_, rfl, sl_heap (heap_alloc_new V _)⟩
  | 23, HI, HST, hin =>
   refine Inv.wpOp_do rfl rfl ?_
   go_simp
   refine (each_new _ _).mono ?_
   rintro e V' ⟨rfl, rfl⟩
   exact HST.out _ _ ((Below.refl _ V).alloc (Nat.le_refl _) _) ⟨_, _, rfl⟩
  | 24, HI, HST, hin =>
   obtain ⟨b, s1, hsl⟩ := HS.out.done 22 (by omega) (Inv.dep HI.out 22 (by kernel_rfl))
   replace s1 : (a.tmps[27]?).getD undef = _ := s1
   simp only [List.length_cons, List.length_nil, Nat.reduceAdd] at s1
   have HSL := Lib.hid hsl
   clear hsl
   obtain ⟨m, b2, s2⟩ := HS.out.done 23 (by omega) (Inv.dep HI.out 23 (by kernel_rfl))
   replace s2 : (a.tmps[28]?).getD undef = _ := s2
   refine Inv.wpOp_do rfl rfl ?_
   go_simp
   exact HST.out _ _ (Below.refl _ _) ⟨_, _, _, rfl, HSL.out⟩
  | 25, HI, HST, hin =>
   refine Inv.wpOp_do rfl rfl ?_
   go_simp
   exact HST.out _ _ (Below.refl _ _) rfl
  | 26, HI, HST, hin =>
   have s30 : (a.tmps[30]?).getD undef = _ := HS.out.done 25 (by omega) (Inv.dep HI.out 25 (by kernel_rfl))
   refine Inv.wpOp_do rfl rfl ?_
   go_simp
   exact HST.out _ _ ((Below.refl _ V).alloc (Nat.le_refl _) _) ⟨_, rfl, sl_heap (heap_alloc_new V _)⟩
  | 27, HI, HST, hin =>
   refine Inv.wpOp_do rfl rfl ?_
   go_simp
   refine (each_new _ _).mono ?_
   rintro e V' ⟨rfl, rfl⟩
   exact HST.out _ _ ((Below.refl _ V).alloc (Nat.le_refl _) _) ⟨_, _, rfl⟩
  | 28, HI, HST, hin =>
   obtain ⟨b, s1, hsl⟩ := HS.out.done 26 (by omega) (Inv.dep HI.out 26 (by kernel_rfl))
   replace s1 : (a.tmps[31]?).getD undef = _ := s1
   simp only [List.length_cons, List.length_nil, Nat.reduceAdd] at s1
   have HSL := Lib.hid hsl
   clear hsl
   obtain ⟨m, b2, s2⟩ := HS.out.done 27 (by omega) (Inv.dep HI.out 27 (by kernel_rfl))
   replace s2 : (a.tmps[32]?).getD undef = _ := s2
   refine Inv.wpOp_do rfl rfl ?_
   go_simp
   exact HST.out _ _ (Below.refl _ _) ⟨_, _, _, rfl, HSL.out⟩
  | 29, HI, HST, hin =>
   refine Inv.wpOp_do rfl rfl ?_
   go_simp
   exact HST.out _ _ (Below.refl _ _) rfl
  | 30, HI, HST, hin =>
   have s34 : (a.tmps[34]?).getD undef = _ := HS.out.done 29 (by omega) (Inv.dep HI.out 29 (by kernel_rfl))
   refine Inv.wpOp_do rfl rfl ?_
   go_simp
   exact HST.out _ _ ((Below.refl _ V).alloc (Nat.le_refl _) _) ⟨_, rfl, sl_heap (heap_alloc_new V _)⟩
  | 31, HI, HST, hin =>
   refine Inv.wpOp_do rfl rfl ?_
   go_simp
   refine (each_new _ _).mono ?_
   rintro e V' ⟨rfl, rfl⟩
   exact HST.out _ _ ((Below.refl _ V).alloc (Nat.le_refl _) _) ⟨_, _, rfl⟩
  | 32, HI, HST, hin =>
   obtain ⟨b, s1, hsl⟩ := HS.out.done 30 (by omega) (Inv.dep HI.out 30 (by kernel_rfl))
   replace s1 : (a.tmps[35]?).getD undef = _ := s1
   simp only [List.length_cons, List.length_nil, Nat.reduceAdd] at s1
   have HSL := Lib.hid hsl
   clear hsl
   obtain ⟨m, b2, s2⟩ := HS.out.done 31 (by omega) (Inv.dep HI.out 31 (by kernel_rfl))
   replace s2 : (a.tmps[36]?).getD undef = _ := s2
   refine Inv.wpOp_do rfl rfl ?_
   go_simp
   exact HST.out _ _ (Below.refl _ _) ⟨_, _, _, rfl, HSL.out⟩
  | 33, HI, HST, hin =>
   refine Inv.wpOp_do rfl rfl ?_
   go_simp
   exact HST.out _ _ (Below.refl _ _) rfl
  | 34, HI, HST, hin =>
   have s38 : (a.tmps[38]?).getD undef = _ := HS.out.done 33 (by omega) (Inv.dep HI.out 33 (by kernel_rfl))
   refine Inv.wpOp_do rfl rfl ?_
   go_simp
   exact HST.out _ _ ((Below.refl _ V).alloc (Nat.le_refl _) _) ⟨_, rfl, sl_heap (heap_alloc_new V _)⟩
  | 35, HI, HST, hin =>
   refine Inv.wpOp_do rfl rfl ?_
   go_simp
   refine (each_new _ _).mono ?_
   rintro e V' ⟨rfl, rfl⟩
   exact HST.out _ _ ((Below.refl _ V).alloc (Nat.le_refl _) _) ⟨_, _, rfl⟩
  | 36, HI, HST, hin =>
   obtain ⟨b, s1, hsl⟩ := HS.out.done 34 (by omega) (Inv.dep HI.out 34 (by kernel_rfl))
   replace s1 : (a.tmps[39]?).getD undef = _ := s1
   simp only [List.length_cons, List.length_nil, Nat.reduceAdd] at s1
   have HSL := Lib.hid hsl
   clear hsl
   obtain ⟨m, b2, s2⟩ := HS.out.done 35 (by omega) (Inv.dep HI.out 35 (by kernel_rfl))
   replace s2 : (a.tmps[40]?).getD undef = _ := s2
   refine Inv.wpOp_do rfl rfl ?_
   go_simp
   exact HST.out _ _ (Below.refl _ _) ⟨_, _, _, rfl, HSL.out⟩
  | 37, HI, HST, hin =>
   refine Inv.wpOp_do rfl rfl ?_
   go_simp
   exact HST.out _ _ (Below.refl _ _) rfl
  | 38, HI, HST, hin =>
   have s42 : (a.tmps[42]?).getD undef = _ := HS.out.done 37 (by omega) (Inv.dep HI.out 37 (by kernel_rfl))
   refine Inv.wpOp_do rfl rfl ?_
   go_simp
   exact HST.out _ _ ((Below.refl _ V).alloc (Nat.le_refl _) _) ⟨_, rfl, sl_heap (heap_alloc_new V _)⟩
  | 39, HI, HST, hin =>
   obtain ⟨b, s1, hsl⟩ := HS.out.done 38 (by omega) (Inv.dep HI.out 38 (by kernel_rfl))
   replace s1 : (a.tmps[43]?).getD undef = _ := s1
   simp only [List.length_cons, List.length_nil, Nat.reduceAdd] at s1
   have HSL := Lib.hid hsl
   clear hsl
   refine Inv.wpOp_do rfl rfl ?_
   go_simp
   exact HST.out _ _ (Below.refl _ _) ⟨_, _, _, rfl, HSL.out⟩
  | 40, HI, HST, hin =>
   refine Inv.wpOp_do rfl rfl ?_
   go_simp
   exact HST.out _ _ (Below.refl _ _) rfl
  | 41, HI, HST, hin =>
   have s45 : (a.tmps[45]?).getD undef = _ := HS.out.done 40 (by omega) (Inv.dep HI.out 40 (by kernel_rfl))
   refine Inv.wpOp_do rfl rfl ?_
   go_simp
   exact HST.out _ _ ((Below.refl _ V).alloc (Nat.le_refl _) _) ⟨_, rfl, sl_heap (heap_alloc_new V _)⟩
  | 42, HI, HST, hin =>
   obtain ⟨b, s1, hsl⟩ := HS.out.done 41 (by omega) (Inv.dep HI.out 41 (by kernel_rfl))
   replace s1 : (a.tmps[46]?).getD undef = _ := s1
   simp only [List.length_cons, List.length_nil, Nat.reduceAdd] at s1
   have HSL := Lib.hid hsl
   clear hsl
   refine Inv.wpOp_do rfl rfl ?_
   go_simp
   exact HST.out _ _ (Below.refl _ _) ⟨_, _, _, rfl, HSL.out⟩
  | 43, HI, HST, hin =>
   refine Inv.wpOp_do rfl rfl ?_
   go_simp
   refine (three_new _ _).mono ?_
   rintro e V' ⟨rfl, rfl⟩
   exact HST.out _ _ ((Below.refl _ V).alloc (Nat.le_refl _) _) ⟨_, _, rfl⟩
  | 44, HI, HST, hin =>
   obtain ⟨m, b2, s2⟩ := HS.out.done 43 (by omega) (Inv.dep HI.out 43 (by kernel_rfl))
   replace s2 : (a.tmps[48]?).getD undef = _ := s2
   refine Inv.wpOp_do rfl rfl ?_
   go_simp
   exact HST.out _ _ (Below.refl _ _) ⟨_, _, _, rfl, sl_nil _ _⟩
  | 45, HI, HST, hin =>
   refine Inv.wpOp_do rfl rfl ?_
   go_simp
   exact HST.out _ _ (Below.refl _ _) rfl
  | 46, HI, HST, hin =>
   refine Inv.wpOp_do rfl rfl ?_
   go_simp
   exact HST.out _ _ (Below.refl _ _) rfl
  | 47, HI, HST, hin =>
   refine Inv.wpOp_do rfl rfl ?_
   go_simp
   exact HST.out _ _ (Below.refl _ _) rfl
  | 48, HI, HST, hin =>
   refine Inv.wpOp_do rfl rfl ?_
   go_simp
   exact HST.out _ _ (Below.refl _ _) rfl
  | 49, HI, HST, hin =>
   have s50 : (a.tmps[50]?).getD undef = _ := HS.out.done 45 (by omega) (Inv.dep HI.out 45 (by kernel_rfl))
   have s51 : (a.tmps[51]?).getD undef = _ := HS.out.done 46 (by omega) (Inv.dep HI.out 46 (by kernel_rfl))
   have s52 : (a.tmps[52]?).getD undef = _ := HS.out.done 47 (by omega) (Inv.dep HI.out 47 (by kernel_rfl))
   have s53 : (a.tmps[53]?).getD undef = _ := HS.out.done 48 (by omega) (Inv.dep HI.out 48 (by kernel_rfl))
   refine Inv.wpOp_do rfl rfl ?_
   go_simp
   exact HST.out _ _ ((Below.refl _ V).alloc (Nat.le_refl _) _) ⟨_, rfl, sl_heap (heap_alloc_new V _)⟩
  | 50, HI, HST, hin =>
   refine Inv.wpOp_do rfl rfl ?_
   go_simp
   refine (three_new _ _).mono ?_
   rintro e V' ⟨rfl, rfl⟩
   exact HST.out _ _ ((Below.refl _ V).alloc (Nat.le_refl _) _) ⟨_, _, rfl⟩
  | 51, HI, HST, hin =>
   obtain ⟨b, s1, hsl⟩ := HS.out.done 49 (by omega) (Inv.dep HI.out 49 (by kernel_rfl))
   replace s1 : (a.tmps[54]?).getD undef = _ := s1
   simp only [List.length_cons, List.length_nil, Nat.reduceAdd] at s1
   have HSL := Lib.hid hsl
   clear hsl
   obtain ⟨m, b2, s2⟩ := HS.out.done 50 (by omega) (Inv.dep HI.out 50 (by kernel_rfl))
   replace s2 : (a.tmps[55]?).getD undef = _ := s2
   refine Inv.wpOp_do rfl rfl ?_
   go_simp
   exact HST.out _ _ (Below.refl _ _) ⟨_, _, _, rfl, HSL.out⟩
  | 52, HI, HST, hin =>
   refine Inv.wpOp_do rfl rfl ?_
   go_simp
   exact HST.out _ _ (Below.refl _ _) ⟨_, _, _, rfl, sl_nil _ _⟩
  | 53, HI, HST, hin =>
   refine Inv.wpOp_do rfl rfl ?_
   go_simp
   exact HST.out _ _ (Below.refl _ _) rfl
  | 54, HI, HST, hin =>
   have s58 : (a.tmps[58]?).getD undef = _ := HS.out.done 53 (by omega) (Inv.dep HI.out 53 (by kernel_rfl))
   refine Inv.wpOp_do rfl rfl ?_
   go_simp
   exact HST.out _ _ ((Below.refl _ V).alloc (Nat.le_refl _) _) ⟨_, rfl, sl_heap (heap_alloc_new V _)⟩
  | 55, HI, HST, hin =>
   obtain ⟨b, s1, hsl⟩ := HS.out.done 54 (by omega) (Inv.dep HI.out 54 (by kernel_rfl))
   replace s1 : (a.tmps[59]?).getD undef = _ := s1
   simp only [List.length_cons, List.length_nil, Nat.reduceAdd] at s1
   have HSL := Lib.hid hsl
   clear hsl
   refine Inv.wpOp_do rfl rfl ?_
   go_simp
   exact HST.out _ _ (Below.refl _ _) ⟨_, _, _, rfl, HSL.out⟩
  | 56, HI, HST, hin =>
   refine Inv.wpOp_do rfl rfl ?_
   go_simp
   exact HST.out _ _ (Below.refl _ _) rfl
  | 57, HI, HST, hin =>
   refine Inv.wpOp_do rfl rfl ?_
   go_simp
   exact HST.out _ _ (Below.refl _ _) rfl
  | 58, HI, HST, hin =>
   refine Inv.wpOp_do rfl rfl ?_
   go_simp
   exact HST.out _ _ (Below.refl _ _) rfl
  | 59, HI, HST, hin =>
   have s61 : (a.tmps[61]?).getD undef = _ := HS.out.done 56 (by omega) (Inv.dep HI.out 56 (by kernel_rfl))
   have s62 : (a.tmps[62]?).getD undef = _ := HS.out.done 57 (by omega) (Inv.dep HI.out 57 (by kernel_rfl))
   have s63 : (a.tmps[63]?).getD undef = _ := HS.out.done 58 (by omega) (Inv.dep HI.out 58 (by kernel_rfl))
   refine Inv.wpOp_do rfl rfl ?_
   go_simp
   exact HST.out _ _ ((Below.refl _ V).alloc (Nat.le_refl _) _) ⟨_, rfl, sl_heap (heap_alloc_new V _)⟩
  | 60, HI, HST, hin =>
   obtain ⟨b, s1, hsl⟩ := HS.out.done 59 (by omega) (Inv.dep HI.out 59 (by kernel_rfl))
   replace s1 : (a.tmps[64]?).getD undef = _ := s1
   simp only [List.length_cons, List.length_nil, Nat.reduceAdd] at s1
   have HSL := Lib.hid hsl
   clear hsl
   refine Inv.wpOp_do rfl rfl ?_
   go_simp
   exact HST.out _ _ (Below.refl _ _) ⟨_, _, _, rfl, HSL.out⟩
  | 61, HI, HST, hin =>
   refine Inv.wpOp_do rfl rfl ?_
   go_simp
   exact HST.out _ _ (Below.refl _ _) rfl
  | 62, HI, HST, hin =>
   refine Inv.wpOp_do rfl rfl ?_
   go_simp
   exact HST.out _ _ (Below.refl _ _) rfl
  | 63, HI, HST, hin =>
   refine Inv.wpOp_do rfl rfl ?_
   go_simp
   exact HST.out _ _ (Below.refl _ _) rfl
  | 64, HI, HST, hin =>
   refine Inv.wpOp_do rfl rfl ?_
   go_simp
   exact HST.out _ _ (Below.refl _ _) rfl
  | 65, HI, HST, hin =>
   have s66 : (a.tmps[66]?).getD undef = _ := HS.out.done 61 (by omega) (Inv.dep HI.out 61 (by kernel_rfl))
   have s67 : (a.tmps[67]?).getD undef = _ := HS.out.done 62 (by omega) (Inv.dep HI.out 62 (by kernel_rfl))
   have s68 : (a.tmps[68]?).getD undef = _ := HS.out.done 63 (by omega) (Inv.dep HI.out 63 (by kernel_rfl))
   have s69 : (a.tmps[69]?).getD undef = _ := HS.out.done 64 (by omega) (Inv.dep HI.out 64 (by kernel_rfl))
   refine Inv.wpOp_do rfl rfl ?_
   go_simp
   exact HST.out _ _ ((Below.refl _ V).alloc (Nat.le_refl _) _) ⟨_, rfl, sl_heap (heap_alloc_new V _)⟩
  | 66, HI, HST, hin =>
   obtain ⟨b, s1, hsl⟩ := HS.out.done 65 (by omega) (Inv.dep HI.out 65 (by kernel_rfl))
   replace s1 : (a.tmps[70]?).getD undef = _ := s1
   simp only [List.length_cons, List.length_nil, Nat.reduceAdd] at s1
   have HSL := Lib.hid hsl
   clear hsl
   refine Inv.wpOp_do rfl rfl ?_
   go_simp
   exact HST.out _ _ (Below.refl _ _) ⟨_, _, _, rfl, HSL.out⟩
  | 67, HI, HST, hin =>
   refine Inv.wpOp_do rfl rfl ?_
   go_simp
   exact HST.out _ _ (Below.refl _ _) rfl
  | 68, HI, HST, hin =>
   have s72 : (a.tmps[72]?).getD undef = _ := HS.out.done 67 (by omega) (Inv.dep HI.out 67 (by kernel_rfl))
   refine Inv.wpOp_do rfl rfl ?_
   go_simp
   exact HST.out _ _ ((Below.refl _ V).alloc (Nat.le_refl _) _) ⟨_, rfl, sl_heap (heap_alloc_new V _)⟩
  | 69, HI, HST, hin =>
   obtain ⟨b, s1, hsl⟩ := HS.out.done 68 (by omega) (Inv.dep HI.out 68 (by kernel_rfl))
   replace s1 : (a.tmps[73]?).getD undef = _ := s1
   simp only [List.length_cons, List.length_nil, Nat.reduceAdd] at s1
   have HSL := Lib.hid hsl
   clear hsl
   refine Inv.wpOp_do rfl rfl ?_
   go_simp
   exact HST.out _ _ (Below.refl _ _) ⟨_, _, _, rfl, HSL.out⟩
  | 70, HI, HST, hin =>
   refine Inv.wpOp_do rfl rfl ?_
   go_simp
   exact HST.out _ _ (Below.refl _ _) ⟨_, _, _, rfl, sl_nil _ _⟩
  | 71, HI, HST, hin =>
   obtain ⟨B0, m0, c0, s0, hs0⟩ := HS.out.done 1 (by omega) (Inv.dep HI.out 1 (by kernel_rfl))
   replace s0 : (a.tmps[6]?).getD undef = _ := s0
   have HSL0 := Lib.hid hs0
   clear hs0
   obtain ⟨B1, m1, c1, s1, hs1⟩ := HS.out.done 2 (by omega) (Inv.dep HI.out 2 (by kernel_rfl))
   replace s1 : (a.tmps[7]?).getD undef = _ := s1
   have HSL1 := Lib.hid hs1
   clear hs1
   obtain ⟨B2, m2, c2, s2, hs2⟩ := HS.out.done 5 (by omega) (Inv.dep HI.out 5 (by kernel_rfl))
   replace s2 : (a.tmps[10]?).getD undef = _ := s2
   have HSL2 := Lib.hid hs2
   clear hs2
   obtain ⟨B3, m3, c3, s3, hs3⟩ := HS.out.done 10 (by omega) (Inv.dep HI.out 10 (by kernel_rfl))
   replace s3 : (a.tmps[15]?).getD undef = _ := s3
   have HSL3 := Lib.hid hs3
   clear hs3
   obtain ⟨B4, m4, c4, s4, hs4⟩ := HS.out.done 15 (by omega) (Inv.dep HI.out 15 (by kernel_rfl))
   replace s4 : (a.tmps[20]?).getD undef = _ := s4
   have HSL4 := Lib.hid hs4
   clear hs4
   obtain ⟨B5, m5, c5, s5, hs5⟩ := HS.out.done 19 (by omega) (Inv.dep HI.out 19 (by kernel_rfl))
   replace s5 : (a.tmps[24]?).getD undef = _ := s5
   have HSL5 := Lib.hid hs5
   clear hs5
   obtain ⟨B6, m6, c6, s6, hs6⟩ := HS.out.done 24 (by omega) (Inv.dep HI.out 24 (by kernel_rfl))
   replace s6 : (a.tmps[29]?).getD undef = _ := s6
   have HSL6 := Lib.hid hs6
   clear hs6
   obtain ⟨B7, m7, c7, s7, hs7⟩ := HS.out.done 28 (by omega) (Inv.dep HI.out 28 (by kernel_rfl))
   replace s7 : (a.tmps[33]?).getD undef = _ := s7
   have HSL7 := Lib.hid hs7
   clear hs7
   obtain ⟨B8, m8, c8, s8, hs8⟩ := HS.out.done 32 (by omega) (Inv.dep HI.out 32 (by kernel_rfl))
   replace s8 : (a.tmps[37]?).getD undef = _ := s8
   have HSL8 := Lib.hid hs8
   clear hs8
   obtain ⟨B9, m9, c9, s9, hs9⟩ := HS.out.done 36 (by omega) (Inv.dep HI.out 36 (by kernel_rfl))
   replace s9 : (a.tmps[41]?).getD undef = _ := s9
   have HSL9 := Lib.hid hs9
   clear hs9
   obtain ⟨B10, m10, c10, s10, hs10⟩ := HS.out.done 39 (by omega) (Inv.dep HI.out 39 (by kernel_rfl))
   replace s10 : (a.tmps[44]?).getD undef = _ := s10
   have HSL10 := Lib.hid hs10
   clear hs10
   obtain ⟨B11, m11, c11, s11, hs11⟩ := HS.out.done 42 (by omega) (Inv.dep HI.out 42 (by kernel_rfl))
   replace s11 : (a.tmps[47]?).getD undef = _ := s11
   have HSL11 := Lib.hid hs11
   clear hs11
   obtain ⟨B12, m12, c12, s12, hs12⟩ := HS.out.done 44 (by omega) (Inv.dep HI.out 44 (by kernel_rfl))
   replace s12 : (a.tmps[49]?).getD undef = _ := s12
   have HSL12 := Lib.hid hs12
   clear hs12
   obtain ⟨B13, m13, c13, s13, hs13⟩ := HS.out.done 51 (by omega) (Inv.dep HI.out 51 (by kernel_rfl))
   replace s13 : (a.tmps[56]?).getD undef = _ := s13
   have HSL13 := Lib.hid hs13
   clear hs13
   obtain ⟨B14, m14, c14, s14, hs14⟩ := HS.out.done 52 (by omega) (Inv.dep HI.out 52 (by kernel_rfl))
   replace s14 : (a.tmps[57]?).getD undef = _ := s14
   have HSL14 := Lib.hid hs14
   clear hs14
   obtain ⟨B15, m15, c15, s15, hs15⟩ := HS.out.done 55 (by omega) (Inv.dep HI.out 55 (by kernel_rfl))
   replace s15 : (a.tmps[60]?).getD undef = _ := s15
   have HSL15 := Lib.hid hs15
   clear hs15
   obtain ⟨B16, m16, c16, s16, hs16⟩ := HS.out.done 60 (by omega) (Inv.dep HI.out 60 (by kernel_rfl))
   replace s16 : (a.tmps[65]?).getD undef = _ := s16
   have HSL16 := Lib.hid hs16
   clear hs16
   obtain ⟨B17, m17, c17, s17, hs17⟩ := HS.out.done 66 (by omega) (Inv.dep HI.out 66 (by kernel_rfl))
   replace s17 : (a.tmps[71]?).getD undef = _ := s17
   have HSL17 := Lib.hid hs17
   clear hs17
   obtain ⟨B18, m18, c18, s18, hs18⟩ := HS.out.done 69 (by omega) (Inv.dep HI.out 69 (by kernel_rfl))
   replace s18 : (a.tmps[74]?).getD undef = _ := s18
   have HSL18 := Lib.hid hs18
   clear hs18
   obtain ⟨B19, m19, c19, s19, hs19⟩ := HS.out.done 70 (by omega) (Inv.dep HI.out 70 (by kernel_rfl))
   replace s19 : (a.tmps[75]?).getD undef = _ := s19
   have HSL19 := Lib.hid hs19
   clear hs19
   simp only [List.length_cons, List.length_nil, Nat.reduceAdd] at s0 s1 s2 s3 s4 s5 s6 s7 s8 s9 s10 s11 s12 s13 s14 s15 s16 s17 s18 s19
   refine Inv.wpOp_do rfl rfl ?_
   go_simp
   have hbV := fun o => (Below.refl _ V).alloc (Nat.le_refl _) o
   refine HST.out _ _ (hbV _) ⟨_, rfl, HVS.out, by simp, ?_⟩
   have hg := heap_alloc_new V
   intro j p hp
   match j, hp with
   | 0, hp =>
    injection hp with hp
    subst hp
    refine ⟨B0, [.func (.func m0) #[] c0], ⟨fun q v hv => ?_, HSL0.out.below (hbV _) (Nat.le_refl _), rfl, rfl⟩⟩
    match q, hv with
    | 0, hv => exact (Ard.row_cell (hg _) 0).trans hv
    | 1, hv => exact (Ard.row_cell (hg _) 1).trans hv
    | 2, hv => exact (Ard.row_cell (hg _) 2).trans hv
   | 1, hp =>
    injection hp with hp
    subst hp
    refine ⟨B1, [.func (.func m1) #[] c1], ⟨fun q v hv => ?_, HSL1.out.below (hbV _) (Nat.le_refl _), rfl, rfl⟩⟩
    match q, hv with
    | 0, hv => exact (Ard.row_cell (hg _) 3).trans hv
    | 1, hv => exact (Ard.row_cell (hg _) 4).trans hv
    | 2, hv => exact (Ard.row_cell (hg _) 5).trans hv
   | 2, hp =>
    injection hp with hp
    subst hp
    refine ⟨B2, [.func (.func m2) #[] c2], ⟨fun q v hv => ?_, HSL2.out.below (hbV _) (Nat.le_refl _), rfl, rfl⟩⟩
    match q, hv with
    | 0, hv => exact (Ard.row_cell (hg _) 6).trans hv
    | 1, hv => exact (Ard.row_cell (hg _) 7).trans hv
    | 2, hv => exact (Ard.row_cell (hg _) 8).trans hv
   | 3, hp =>
    injection hp with hp
    subst hp
    refine ⟨B3, [.func (.func m3) #[] c3], ⟨fun q v hv => ?_, HSL3.out.below (hbV _) (Nat.le_refl _), rfl, rfl⟩⟩
    match q, hv with
    | 0, hv => exact (Ard.row_cell (hg _) 9).trans hv
    | 1, hv => exact (Ard.row_cell (hg _) 10).trans hv
    | 2, hv => exact (Ard.row_cell (hg _) 11).trans hv
   | 4, hp =>
    injection hp with hp
    subst hp
    refine ⟨B4, [.func (.func m4) #[] c4], ⟨fun q v hv => ?_, HSL4.out.below (hbV _) (Nat.le_refl _), rfl, rfl⟩⟩
    match q, hv with
    | 0, hv => exact (Ard.row_cell (hg _) 12).trans hv
    | 1, hv => exact (Ard.row_cell (hg _) 13).trans hv
    | 2, hv => exact (Ard.row_cell (hg _) 14).trans hv
   | 5, hp =>
    injection hp with hp
    subst hp
    refine ⟨B5, [.func (.func m5) #[] c5], ⟨fun q v hv => ?_, HSL5.out.below (hbV _) (Nat.le_refl _), rfl, rfl⟩⟩
    match q, hv with
    | 0, hv => exact (Ard.row_cell (hg _) 15).trans hv
    | 1, hv => exact (Ard.row_cell (hg _) 16).trans hv
    | 2, hv => exact (Ard.row_cell (hg _) 17).trans hv
   | 6, hp =>
    injection hp with hp
    subst hp
    refine ⟨B6, [.func (.func m6) #[] c6], ⟨fun q v hv => ?_, HSL6.out.below (hbV _) (Nat.le_refl _), rfl, rfl⟩⟩
    match q, hv with
    | 0, hv => exact (Ard.row_cell (hg _) 18).trans hv
    | 1, hv => exact (Ard.row_cell (hg _) 19).trans hv
    | 2, hv => exact (Ard.row_cell (hg _) 20).trans hv
   | 7, hp =>
    injection hp with hp
    subst hp
    refine ⟨B7, [.func (.func m7) #[] c7], ⟨fun q v hv => ?_, HSL7.out.below (hbV _) (Nat.le_refl _), rfl, rfl⟩⟩
    match q, hv with
    | 0, hv => exact (Ard.row_cell (hg _) 21).trans hv
    | 1, hv => exact (Ard.row_cell (hg _) 22).trans hv
    | 2, hv => exact (Ard.row_cell (hg _) 23).trans hv
   | 8, hp =>
    injection hp with hp
    subst hp
    refine ⟨B8, [.func (.func m8) #[] c8], ⟨fun q v hv => ?_, HSL8.out.below (hbV _) (Nat.le_refl _), rfl, rfl⟩⟩
    match q, hv with
    | 0, hv => exact (Ard.row_cell (hg _) 24).trans hv
    | 1, hv => exact (Ard.row_cell (hg _) 25).trans hv
    | 2, hv => exact (Ard.row_cell (hg _) 26).trans hv
   | 9, hp =>
    injection hp with hp
    subst hp
    refine ⟨B9, [.func (.func m9) #[] c9], ⟨fun q v hv => ?_, HSL9.out.below (hbV _) (Nat.le_refl _), rfl, rfl⟩⟩
    match q, hv with
    | 0, hv => exact (Ard.row_cell (hg _) 27).trans hv
    | 1, hv => exact (Ard.row_cell (hg _) 28).trans hv
    | 2, hv => exact (Ard.row_cell (hg _) 29).trans hv
   | 10, hp =>
    injection hp with hp
    subst hp
    refine ⟨B10, [.func (.func m10) #[] c10], ⟨fun q v hv => ?_, HSL10.out.below (hbV _) (Nat.le_refl _), rfl, rfl⟩⟩
    match q, hv with
    | 0, hv => exact (Ard.row_cell (hg _) 30).trans hv
    | 1, hv => exact (Ard.row_cell (hg _) 31).trans hv
    | 2, hv => exact (Ard.row_cell (hg _) 32).trans hv
   | 11, hp =>
    injection hp with hp
    subst hp
    refine ⟨B11, [.func (.func m11) #[] c11], ⟨fun q v hv => ?_, HSL11.out.below (hbV _) (Nat.le_refl _), rfl, rfl⟩⟩
    match q, hv with
    | 0, hv => exact (Ard.row_cell (hg _) 33).trans hv
    | 1, hv => exact (Ard.row_cell (hg _) 34).trans hv
    | 2, hv => exact (Ard.row_cell (hg _) 35).trans hv
   | 12, hp =>
    injection hp with hp
    subst hp
    refine ⟨B12, [.func (.func m12) #[] c12], ⟨fun q v hv => ?_, HSL12.out.below (hbV _) (Nat.le_refl _), rfl, rfl⟩⟩
    match q, hv with
    | 0, hv => exact (Ard.row_cell (hg _) 36).trans hv
    | 1, hv => exact (Ard.row_cell (hg _) 37).trans hv
    | 2, hv => exact (Ard.row_cell (hg _) 38).trans hv
   | 13, hp =>
    injection hp with hp
    subst hp
    refine ⟨B13, [.func (.func m13) #[] c13], ⟨fun q v hv => ?_, HSL13.out.below (hbV _) (Nat.le_refl _), rfl, rfl⟩⟩
    match q, hv with
    | 0, hv => exact (Ard.row_cell (hg _) 39).trans hv
    | 1, hv => exact (Ard.row_cell (hg _) 40).trans hv
    | 2, hv => exact (Ard.row_cell (hg _) 41).trans hv
   | 14, hp =>
    injection hp with hp
    subst hp
    refine ⟨B14, [.func (.func m14) #[] c14], ⟨fun q v hv => ?_, HSL14.out.below (hbV _) (Nat.le_refl _), rfl, rfl⟩⟩
    match q, hv with
    | 0, hv => exact (Ard.row_cell (hg _) 42).trans hv
    | 1, hv => exact (Ard.row_cell (hg _) 43).trans hv
    | 2, hv => exact (Ard.row_cell (hg _) 44).trans hv
   | 15, hp =>
    injection hp with hp
    subst hp
    refine ⟨B15, [.func (.func m15) #[] c15], ⟨fun q v hv => ?_, HSL15.out.below (hbV _) (Nat.le_refl _), rfl, rfl⟩⟩
    match q, hv with
    | 0, hv => exact (Ard.row_cell (hg _) 45).trans hv
    | 1, hv => exact (Ard.row_cell (hg _) 46).trans hv
    | 2, hv => exact (Ard.row_cell (hg _) 47).trans hv
   | 16, hp =>
    injection hp with hp
    subst hp
    refine ⟨B16, [.func (.func m16) #[] c16], ⟨fun q v hv => ?_, HSL16.out.below (hbV _) (Nat.le_refl _), rfl, rfl⟩⟩
    match q, hv with
    | 0, hv => exact (Ard.row_cell (hg _) 48).trans hv
    | 1, hv => exact (Ard.row_cell (hg _) 49).trans hv
    | 2, hv => exact (Ard.row_cell (hg _) 50).trans hv
   | 17, hp =>
    injection hp with hp
    subst hp
    refine ⟨B17, [.func (.func m17) #[] c17], ⟨fun q v hv => ?_, HSL17.out.below (hbV _) (Nat.le_refl _), rfl, rfl⟩⟩
    match q, hv with
    | 0, hv => exact (Ard.row_cell (hg _) 51).trans hv
    | 1, hv => exact (Ard.row_cell (hg _) 52).trans hv
    | 2, hv => exact (Ard.row_cell (hg _) 53).trans hv
   | 18, hp =>
    injection hp with hp
    subst hp
    refine ⟨B18, [.func (.func m18) #[] c18], ⟨fun q v hv => ?_, HSL18.out.below (hbV _) (Nat.le_refl _), rfl, rfl⟩⟩
    match q, hv with
    | 0, hv => exact (Ard.row_cell (hg _) 54).trans hv
    | 1, hv => exact (Ard.row_cell (hg _) 55).trans hv
    | 2, hv => exact (Ard.row_cell (hg _) 56).trans hv
   | 19, hp =>
    injection hp with hp
    subst hp
    refine ⟨B19, [.func (.func m19) #[] c19], ⟨fun q v hv => ?_, HSL19.out.below (hbV _) (Nat.le_refl _), rfl, rfl⟩⟩
    match q, hv with
    | 0, hv => exact (Ard.row_cell (hg _) 57).trans hv
    | 1, hv => exact (Ard.row_cell (hg _) 58).trans hv
    | 2, hv => exact (Ard.row_cell (hg _) 59).trans hv
   | j + 20, hp => simp [pts] at hp
  | 72, HI, HST, hin =>
   obtain ⟨g, s1, h1, h2, h3⟩ := HS.out.done 71 (by omega) (Inv.dep HI.out 71 (by kernel_rfl))
   replace s1 : (a.tmps[76]?).getD undef = _ := s1
   have H3 := Lib.hid h3
   clear h3
   refine Inv.wpOp_do rfl rfl ?_
   go_simp
   exact HST.out _ _ (Below.refl _ _) ⟨g, rfl, h1, h2, H3.out⟩
  | j + 73, HI, HST, hin => omega
 ·intro L a V hs hr hS
  have hl := Inv.all_listed (by kernel_rfl) hs hr 72 (by show 72 < 73; omega)
  obtain ⟨g, s1, h1, h2, h3⟩ := hS.done 72 (by omega) hl
  have hb := hS.bel
  have hdf := hS.df
  obtain ⟨tmps, defers⟩ := a
  simp only at hdf s1
  subst hdf
  replace s1 : (tmps[0]?).getD undef = _ := s1
  have h4 : 0 < tmps.size := by have := hS.sz; simp only at this; omega
  have s2 : tmps[0]? = some (.slice (some ⟨g, 0, none⟩) 20 20) := by rw [Array.getElem?_eq_getElem h4] at s1 ⊢; exact congrArg some s1
  clear hS
  go_wp2_with fail
  refine bodyPost_ret (results_tmp rfl _ _ _) rfl ?_
  simp only [Array.getD_eq_getD_getElem?, s2, Option.getD_some]
  exact ⟨g, rfl, h1, h2, hWb.trans (hb.mono (by omega)), h3⟩
end Go.Proofs.YtoofgblmpjndjaaGreatDoor.Scr
set_option linter.unusedVariables false
set_option linter.unusedSimpArgs false
namespace Go.Proofs.YtoofgblmpjndjaaGreatDoor.Ard
open Go.RowKit K

theorem fits_at {b : List (Int × Int)} {a : List Int} (h : fitsB b a = true) : a.length = b.length ∧ ∀ i, i < b.length → (b.getD i (0, 0)).1 ≤ a.getD i 0 ∧ a.getD i 0 ≤ (b.getD i (0, 0)).2 := by
 unfold fitsB at h
 rw [Bool.and_eq_true] at h
 refine ⟨by simpa using h.1, fun i hi => ?_⟩
 have := List.all_eq_true.1 h.2 i (by simpa using hi)
 simpa using this
def rxF (i : Nat) (a : List Int) : Int := if i = 0 ∨ i = 2 ∨ i = 3 ∨ i = 4 then 1 else a.getD 0 0
def ryF (i : Nat) (a : List Int) : Int := if i = 0 ∨ i = 2 ∨ i = 3 ∨ i = 4 then 1 else if i = 8 then 0 else a.getD 0 0
theorem nine {i : Nat} (h : i < 9) : i = 0 ∨ i = 1 ∨ i = 2 ∨ i = 3 ∨ i = 4 ∨ i = 5 ∨ i = 6 ∨ i = 7 ∨ i = 8 := by omega
theorem rx_in {i : Nat} {a : List Int} (hi : i < 9) (h : fitsB (bndF i) a = true) : 1 ≤ rxF i a ∧ rxF i a ≤ 8 ∧ 0 ≤ ryF i a ∧ ryF i a ≤ 8 := by
 obtain ⟨h1, h2⟩ := fits_at h
 rcases nine hi with rfl | rfl | rfl | rfl | rfl | rfl | rfl | rfl | rfl <;> simp only [rxF, ryF] <;> first
  | (simp; done)
  | (have := h2 0 (by simp [bndF]); simp [bndF] at this ⊢; omega)
theorem reach_enters {i : Nat} (hi : i < 9) : ∀ args w, (callFunc (reachN i) args).run Tryz.prog w = .ok (.enter (reachN i) args) w := by
 rcases nine hi with rfl | rfl | rfl | rfl | rfl | rfl | rfl | rfl | rfl
 ·exact enters_of Tryz.func214 (by kernel_rfl) rfl
 ·exact enters_of Tryz.func217 (by kernel_rfl) rfl
 ·exact enters_of Tryz.func214 (by kernel_rfl) rfl
 ·exact enters_of Tryz.func214 (by kernel_rfl) rfl
 ·exact enters_of Tryz.func214 (by kernel_rfl) rfl
 ·exact enters_of Tryz.func217 (by kernel_rfl) rfl
 ·exact enters_of Tryz.func217 (by kernel_rfl) rfl
 ·exact enters_of Tryz.func217 (by kernel_rfl) rfl
 ·exact enters_of Tryz.func231 (by kernel_rfl) rfl
theorem reach_any {i : Nat} {A : Option Addr} {n c : Nat} {a : List Int} (hi : i < 9) (h : fitsB (bndF i) a = true) (w : World) (HA : SI w .i64 A n a) :
  Calls Tryz.prog (reachN i) #[.slice A n c] w fun e w' => e = .returned (.tuple #[.int .i64 (rxF i a), .int .i64 (ryF i a)]) ∧ ∃ k, w.drewN k = w' := by
 obtain ⟨h1, -⟩ := fits_at h
 have hn := HA.len
 rcases nine hi with rfl | rfl | rfl | rfl | rfl | rfl | rfl | rfl | rfl
 ·exact (one_any w).mono fun e w' ⟨h1, h2⟩ => ⟨h1, 0, h2⟩
 ·exact wide_any w HA (by rw [← hn, h1]; simp [bndF])
 ·exact (one_any w).mono fun e w' ⟨h1, h2⟩ => ⟨h1, 0, h2⟩
 ·exact (one_any w).mono fun e w' ⟨h1, h2⟩ => ⟨h1, 0, h2⟩
 ·exact (one_any w).mono fun e w' ⟨h1, h2⟩ => ⟨h1, 0, h2⟩
 ·exact wide_any w HA (by rw [← hn, h1]; simp [bndF])
 ·exact wide_any w HA (by rw [← hn, h1]; simp [bndF])
 ·exact wide_any w HA (by rw [← hn, h1]; simp [bndF])
 ·exact (flat_any w HA (by rw [← hn, h1]; simp [bndF])).mono fun e w' ⟨h1, h2⟩ => ⟨h1, 0, h2⟩
def CheckP (w : World) (v : Int) (e : Ending) (w' : World) : Prop := e = .returned (.int .i64 v) ∧ Below w.heap.size w w'
theorem check_any {op : ByteArray} {A : Option Addr} {n c : Nat} {a : List Int} (w : World) (HA : SI w .i64 A n a) : Calls Tryz.prog 77 #[.string op, .slice A n c] w (CheckP w (checkE op a)) := by
 have HF := Lib.hid (find_any (op := op) (c := c) w HA)
 clear HA
 go_enter Tryz.func77, Tryz.ntmps77
 go_wp2_with fail
 refine HF.out.mono ?_
 rintro e w1 ⟨hb, ⟨-, rfl⟩ | ⟨i, B, bn, bc, hi, h0, hid, hf, rfl⟩⟩
 ·have hw : ∀ o, Below w.heap.size w (w1.alloc o) := fun o => hb.alloc hb.size o
  have HW := Lib.hid hw
  have HSZ := Lib.hid hb.size
  clear hb hw
  go_wp2_with (refine wpList_store_rowW rfl 136 (.tmp 5) (.tmp 11) rfl w1.heap.size zeroOp rfl rfl 136 zeroOp (heap_alloc_new w1 _) opInfo rfl zeroAll w.heap.size w (HW.out _) HSZ.out ?_; intro W HW1 HW2 HW3)
  go_ret
  exact ⟨rfl, HW2.out⟩
 ·have H0 := Lib.hid h0
  have hw : ∀ o, Below w.heap.size w (w1.alloc o) := fun o => hb.alloc hb.size o
  have HW := Lib.hid hw
  have HSZ := Lib.hid hb.size
  clear hb hw hi h0 hid hf
  go_wp2_with (refine wpList_store_rowW rfl 136 (.tmp 5) (.tmp 11) rfl w1.heap.size (opCells i B bn bc) rfl rfl 136 zeroOp (heap_alloc_new w1 _) opInfo rfl (opAll _ _ _ _) w.heap.size w (HW.out _) HSZ.out ?_; intro W HW1 HW2 HW3)
  go_ret
  exact ⟨by rw [H0.out]; rfl, HW2.out⟩
def reachE (op : ByteArray) (a : List Int) : Int := match idxF op with | none => 0 | some i => rxF i a
def ReachP (w : World) (op : ByteArray) (a : List Int) (e : Ending) (w' : World) : Prop :=
 e = .returned (.tuple #[.int .i64 (if checkE op a = 0 then reachE op a else 0), .int .i64 (checkE op a)]) ∧ Below w.heap.size w w'
end Go.Proofs.YtoofgblmpjndjaaGreatDoor.Ard
set_option linter.unusedVariables false
set_option linter.unusedSimpArgs false
namespace Go.Proofs.YtoofgblmpjndjaaGreatDoor.Ard
open Go.RowKit K

def namesC : List Value := (List.range 9).map fun i => .string (nameF i)
theorem namesC_at {i : Nat} (h : i < 9) : namesC[i]? = some (.string (nameF i)) := by simp [namesC, h]
theorem rnames_any (w : World) : Calls Tryz.prog 87 #[] w fun e w' => ∃ g, e = .returned (.slice (some ⟨g, 0, none⟩) 9 9) ∧ Sl w' (some ⟨g, 0, none⟩) namesC ∧ Below w.heap.size w w' := by
 go_enter Tryz.func87, Tryz.ntmps87
 go_wp2
 go_ret
 exact ⟨_, rfl, sl_new w namesC _, (Below.refl _ w).alloc (Nat.le_refl _) _⟩
theorem idxF_none {op : ByteArray} (h : ∀ i, i < 9 → nameF i ≠ op) : idxF op = none := by
 unfold idxF
 rw [List.find?_eq_none]
 intro i hi
 simp at hi
 simp [h i hi]
theorem in_any {op : ByteArray} {g c : Nat} (w : World) (HS : Sl w (some ⟨g, 0, none⟩) namesC) : Calls Tryz.prog 28 #[.string op, .slice (some ⟨g, 0, none⟩) 9 c] w fun e w' => e = .returned (.bool (idxF op).isSome) ∧ w = w' := by
 have HSS := Lib.hid HS
 clear HS
 go_enter Tryz.func28, Tryz.ntmps28
 go_wp2
 go_loop [5] (fun s5 => ∃ k : Nat, k ≤ 9 ∧ s5 = .int .i64 k ∧ ∀ i, i < k → nameF i ≠ op) (fun s5 => 9 - (intOf s5).toNat)
 case atStart => exact ⟨0, by omega, rfl, fun i hi => by omega⟩
 case round =>
  obtain ⟨k, hk, rfl, hno⟩ := hrel
  have HNO := Lib.hid hno
  clear hno
  by_cases hlt : k < 9
  ·have d0 : decide ((k : Int) < 9) = true := decide_eq_true (by omega)
   have i0 : (0 : Int) ≤ (k : Int) := by omega
   have i1 : (k : Int) < 9 := by omega
   obtain ⟨b', o', e', hc⟩ := HSS.out k _ (namesC_at hlt)
   injection e' with e'
   injection e' with e1 e2
   subst e1 e2
   rw [Nat.zero_add] at hc
   by_cases he : nameF k = op
   ·have hnn : ((nameF k).toList == op.toList) = true := by rw [bytes_beq]; simpa using he
    have HID : Hid ((idxF op).isSome = true) := by show _ = _; rw [idxF_at hlt HNO.out he]; rfl
    clear he
    go_wp2
    go_ret
    exact ⟨by rw [HID.out]; rfl, rfl⟩
   ·have hnn : ((nameF k).toList == op.toList) = false := by rw [bytes_beq]; simpa using he
    have HE := Lib.hid he
    clear he
    go_wp2
    go_round
    case rel => exact ⟨k + 1, by omega, by go_num, fun i hi => by
     rcases Nat.lt_or_ge i k with h | h
     ·exact HNO.out i h
     ·obtain rfl : i = k := by omega
      exact HE.out⟩
    case measure => simp [intOf]; omega
  ·obtain rfl : k = 9 := by omega
   have HID : Hid ((idxF op).isSome = false) := by show _ = _; rw [idxF_none HNO.out]; rfl
   simp only [Int.cast_ofNat_Int]
   go_wp2
   go_ret
   exact ⟨by rw [HID.out]; rfl, rfl⟩
def flatP (l : List (Int × Int)) : List Int := l.flatMap fun p => [p.1, p.2]
theorem flatP_at (l : List (Int × Int)) : ∀ (j : Nat) (h : j < l.length), (flatP l)[2 * j]? = some (l.getD j (0, 0)).1 ∧ (flatP l)[2 * j + 1]? = some (l.getD j (0, 0)).2 := by
 induction l with
 | nil => intro j h; simp at h
 | cons p l ih =>
  intro j h
  cases j with
  | zero => exact ⟨rfl, rfl⟩
  | succ j =>
   have := ih j (by simpa using h)
   have e1 : 2 * (j + 1) = 2 * j + 1 + 1 := by omega
   rw [e1]
   simpa [flatP, List.getD] using this
set_option maxHeartbeats 1000000 in
theorem fit_any {A B : Option Addr} {n c bn m d : Nat} {a : List Int} {b : List (Int × Int)} (w : World) (HA : SI w .i64 A n a) (hbn : b.length = bn) (hm : m = 2 * bn) (HB : SI w .i64 B m (flatP b)) (hb11 : bn ≤ 11) :
  Calls Tryz.prog 82 #[.slice A n c, .slice B m d] w fun e w' => e = .returned (.bool (fitsB b a)) ∧ ∃ k, w.drewN k = w' := by
 have hbig := HA.big
 have hla := HA.len
 have w1 : wrap64 (2 * (n : Int)) = 2 * (n : Int) := IntWalk.wrap64_in _ (by omega)
 have HAA := Lib.hid HA
 have HBB := Lib.hid HB
 have HBN := Lib.hid hbn
 have HLA := Lib.hid hla
 clear HA HB hla
 by_cases hn : n = bn
 ·subst hn
  have HM := Lib.hid hm
  have hmi : (m : Int) = 2 * (n : Int) := by omega
  have hne : ((2 * (n : Int)) != (m : Int)) = false := by rw [hmi]; simp
  have HMI := Lib.hid hmi
  clear hm hbn hmi
  go_enter Tryz.func82, Tryz.ntmps82
  go_wp2
  go_loopw [5] (fun s5 wr => ∃ k q : Nat, k ≤ n ∧ s5 = .int .i64 k ∧ w.drewN q = wr ∧ ∀ i, i < k → (b.getD i (0, 0)).1 ≤ a.getD i 0 ∧ a.getD i 0 ≤ (b.getD i (0, 0)).2) (fun s5 _ => n - (intOf s5).toNat)
  case atStart => exact ⟨0, 0, by omega, rfl, rfl, fun i hi => by omega⟩
  case round =>
   obtain ⟨k, q, hk, rfl, rfl, hin⟩ := hrel
   have HIN := Lib.hid hin
   clear hin
   by_cases hlt : k < n
   ·have d0 : decide ((k : Int) < (n : Int)) = true := decide_eq_true (by omega)
    have j0 : (0 : Int) ≤ (k : Int) := by omega
    have j1 : (k : Int) < (n : Int) := by omega
    have hb := HBN.out
    obtain ⟨p1, p2⟩ := flatP_at b k (by omega)
    obtain ⟨ab, ao, av, rfl, ac, hav, -⟩ := (HAA.out).cells (i := k) hlt
    obtain ⟨bb, bo, x1, rfl, c1, hx1, -⟩ := (HBB.out).cells (i := 2 * k) (by have := HM.out; omega)
    obtain ⟨bb', bo', x2, e', c2, hx2, -⟩ := (HBB.out).cells (i := 2 * k + 1) (by have := HM.out; omega)
    injection e' with e'
    injection e' with e1 e2
    subst e1 e2
    have HAV : Hid (a.getD k 0 = av) := getD_at hav.out
    have HX1 : Hid ((b.getD k (0, 0)).1 = x1) := by have := hx1.out; rw [p1] at this; injection this
    have HX2 : Hid ((b.getD k (0, 0)).2 = x2) := by have := hx2.out; rw [p2] at this; injection this
    have m1 : wrap64 (2 * (k : Int)) = ((2 * k : Nat) : Int) := by rw [IntWalk.wrap64_in _ (by omega)]; push_cast; rfl
    have m2 : wrap64 (((2 * k : Nat) : Int) + 1) = ((2 * k + 1 : Nat) : Int) := by rw [IntWalk.wrap64_in _ (by omega)]; push_cast; rfl
    have m3 : IntKind.i64.wrap (2 * (k : Int)) = ((2 * k : Nat) : Int) := by rw [IntWalk.i64_in _ (by omega)]; push_cast; rfl
    have m4 : IntKind.i64.wrap (((2 * k : Nat) : Int) + 1) = ((2 * k + 1 : Nat) : Int) := by rw [IntWalk.i64_in _ (by omega)]; push_cast; rfl
    have j2 : (0 : Int) ≤ ((2 * k : Nat) : Int) := by omega
    have j3 : ((2 * k : Nat) : Int) < (m : Int) := by have := HM.out; omega
    have j4 : (0 : Int) ≤ ((2 * k + 1 : Nat) : Int) := by omega
    have j5 : ((2 * k + 1 : Nat) : Int) < (m : Int) := by have := HM.out; omega
    have HWJ : Hid (wrap64 ((k : Int) + 1) = ((k + 1 : Nat) : Int)) := by show _ = _; rw [IntWalk.wrap64_in _ (by omega)]; rfl
    obtain ⟨k2, hk2⟩ : ∃ k2 : Nat, 2 * k = k2 := ⟨_, rfl⟩
    obtain ⟨k3, hk3⟩ : ∃ k3 : Nat, 2 * k + 1 = k3 := ⟨_, rfl⟩
    rw [hk3] at m2 m4 j4 j5 c2
    rw [hk2] at m1 m2 m3 m4 j2 j3 c1
    clear p1 p2 hav hx1 hx2 hk2 hk3 hb hbig w1
    by_cases hin2 : x1 ≤ av ∧ av ≤ x2
    ·have t1 : decide (av < x1) = false := decide_eq_false (by omega)
     have t2 : decide (x2 < av) = false := decide_eq_false (by omega)
     have HIN2 := Lib.hid hin2
     clear hin2
     go_wp2
     go_quiet (fail)
     go_wp2
     go_roundw
     case rel => exact ⟨k + 1, q + nq, by omega, by first | rw [HWJ.out] | rfl, by first | rfl | rw [World.drewN_drewN], fun i hi => by
      rcases Nat.lt_or_ge i k with h | h
      ·exact HIN.out i h
      ·obtain rfl : i = k := by omega
       rw [HAV.out, HX1.out, HX2.out]; exact HIN2.out⟩
     case measure => simp [intOf]; omega
    ·have HE : Hid (fitsB b a = false) := by
      show _ = _
      unfold fitsB
      rw [Bool.and_eq_false_iff]
      refine .inr ?_
      rw [List.all_eq_false]
      refine ⟨k, by have := HBN.out; simp; omega, ?_⟩
      rw [HAV.out, HX1.out, HX2.out]
      simp; omega
     rcases Decidable.em (av < x1) with h1 | h1
     ·have t1 : decide (av < x1) = true := decide_eq_true h1
      clear hin2 h1
      go_wp2
      go_quiet (fail)
      go_wp2
      go_ret
      exact ⟨by rw [HE.out]; rfl, q + nq, by rw [World.drewN_drewN]⟩
     ·have t1 : decide (av < x1) = false := decide_eq_false h1
      have t2 : decide (x2 < av) = true := decide_eq_true (by omega)
      clear hin2 h1
      go_wp2
      go_quiet (fail)
      go_wp2
      go_ret
      exact ⟨by rw [HE.out]; rfl, q + nq, by rw [World.drewN_drewN]⟩
   ·obtain rfl : k = n := by omega
    have HE : Hid (fitsB b a = true) := by
     show _ = _
     unfold fitsB
     rw [HLA.out, HBN.out]
     simp only [decide_true, Bool.true_and, List.all_eq_true, List.mem_range, Bool.and_eq_true, decide_eq_true_eq]
     exact fun i hi => HIN.out i hi
    have d0 : decide ((k : Int) < (k : Int)) = false := by simp
    clear w1 hbig
    go_wp2
    go_ret
    exact ⟨by rw [HE.out]; rfl, _, rfl⟩
 ·have hne : ((2 * (n : Int)) != (m : Int)) = true := by simp; omega
  have HE : Hid (fitsB b a = false) := by
   show _ = _
   unfold fitsB
   rw [HLA.out, HBN.out]; simp [hn]
  clear hn hm hbn
  go_enter Tryz.func82, Tryz.ntmps82
  go_wp2
  go_ret
  exact ⟨by rw [HE.out]; rfl, 0, rfl⟩
end Go.Proofs.YtoofgblmpjndjaaGreatDoor.Ard
