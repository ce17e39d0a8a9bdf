/-
  Walks: the table of operators.
-/
import Derived.Test.YtogmlcgiajigfaaArdO
import Derived.Test.YtogmlcgiajigfaaArdK
set_option linter.unusedVariables false
set_option linter.unusedSimpArgs false
namespace Go.Proofs.Ytogmlcgiajigfaa.Ard
open Go.RowKit K

/-- pairs as cells -/
def pairCells (l : List (Int × Int)) : List Value := l.flatMap fun p => [.int .i64 p.1, .int .i64 p.2]
/-- the operators: names, bounds, functions -/
def nameF : Nat → ByteArray
  | 0 => ⟨#[99, 111, 110, 118, 111, 108, 118, 101]⟩
  | 1 => ⟨#[98, 108, 117, 114]⟩
  | 2 => ⟨#[115, 104, 97, 114, 112, 101, 110]⟩
  | 3 => ⟨#[101, 100, 103, 101]⟩
  | 4 => ⟨#[101, 109, 98, 111, 115, 115]⟩
  | 5 => ⟨#[108, 101, 97, 115, 116]⟩
  | 6 => ⟨#[109, 111, 115, 116]⟩
  | 7 => ⟨#[109, 101, 100, 105, 97, 110]⟩
  | _ => ⟨#[108, 105, 110, 101, 115]⟩
def bndF : Nat → List (Int × Int)
  | 0 => List.replicate 9 (-1024, 1024) ++ [(1, 65535), (-65535, 65535)]
  | 3 => []
  | 4 => []
  | 7 => [(1, 3)]
  | _ => [(1, 8)]
def reachN : Nat → Nat
  | 0 => 43
  | 2 => 43
  | 3 => 43
  | 4 => 43
  | 8 => 60
  | _ => 46
def doN : Nat → Nat
  | 0 => 44
  | 1 => 47
  | 2 => 48
  | 3 => 50
  | 4 => 52
  | 5 => 53
  | 6 => 55
  | 7 => 57
  | _ => 47
def alphaF (i : Nat) : Bool := i == 5 || i == 6 || i == 7
/-- a row of the table -/
structure OpAt (w : World) (g i : Nat) (B : Option Addr) (c : Nat) : Prop where
  c0 : w.cell? ⟨g, i * 5, none⟩ = some (.string (nameF i))
  c1 : w.cell? ⟨g, i * 5 + 1, none⟩ = some (.slice B (bndF i).length c)
  c2 : w.cell? ⟨g, i * 5 + 2, none⟩ = some (.func (.func (reachN i)) #[] #[])
  c3 : w.cell? ⟨g, i * 5 + 3, none⟩ = some (.func (.func (doN i)) #[] #[])
  c4 : w.cell? ⟨g, i * 5 + 4, none⟩ = some (.bool (alphaF i))
  bs : Sl w B (pairCells (bndF i))
def OpsP (w : World) (e : Ending) (w' : World) : Prop :=
  ∃ g, e = .returned (.slice (some ⟨g, 0, none⟩) 9 9) ∧ w.heap.size ≤ g ∧ g < w'.heap.size ∧ Below w.heap.size w w' ∧ ∀ i, i < 9 → ∃ B c, OpAt w' g i B c
theorem pairInfo2 : (Try.prog.info? 60).map (fun i => (i.zero, i.size, i.bytes)) = some (some (.agg #[.int .i64 0, .int .i64 0]), 2, 16) := by kernel_rfl
set_option maxRecDepth 20000 in
set_option maxHeartbeats 2000000 in
theorem operators_any (w : World) : Calls Try.prog 29 #[] w (OpsP w) := by
  go_enter Try.func29, Try.ntmps29
  go_wp2_with fail
  have hb1 := ((Below.refl w.heap.size w).alloc (Nat.le_refl _) (.cells #[.int .i64 1, .int .i64 8] 60)).alloc (by simp) (.cells #[.int .i64 (-1024), .int .i64 1024] 60)
  have z0 : ((w.alloc (.cells #[.int .i64 1, .int .i64 8] 60)).alloc (.cells #[.int .i64 (-1024), .int .i64 1024] 60)).heap[w.heap.size]? = some (.cells #[.int .i64 1, .int .i64 8] 60 (0, 0)) := (Below.heap_alloc _ _ _ (by simp)).trans (heap_alloc_new _ _)
  refine (repeat2_any (x := -1024) (y := 1024) _ (by have := sl_new (w.alloc (.cells #[.int .i64 1, .int .i64 8] 60)) [.int .i64 (-1024), .int .i64 1024] 60; rw [World.size_alloc] at this; exact this)).mono ?_
  rintro e w2 ⟨rfl, hR⟩
  have hs1 : ((w.alloc (.cells #[.int .i64 1, .int .i64 8] 60)).alloc (.cells #[.int .i64 (-1024), .int .i64 1024] 60)).heap.size = w.heap.size + 2 := by simp
  obtain ⟨hb2, hr2⟩ := hR
  rw [hs1] at hb2 hr2 ⊢
  have hb3 : Below w.heap.size w w2 := hb1.trans (hb2.mono (by omega))
  have z2 : w2.heap[w.heap.size]? = some (.cells #[.int .i64 1, .int .i64 8] 60 (0, 0)) := (hb2.block _ (by omega)).trans z0
  have hk : w2.ownsRow w.heap.size 60 2 (.slice (some ⟨w.heap.size + 2, 0, none⟩) 9 9) 9 (pairCells (List.replicate 9 (-1024, 1024))) := ⟨rfl, .inr ⟨_, _, _, rfl, by omega, hr2, Nat.le_refl _, by unfold maxLen; omega, rfl, rfl⟩⟩
  have hsz : w.heap.size + 2 < w2.heap.size := (Array.getElem?_eq_some_iff.1 hr2).1
  have HK := Lib.hid hk
  have HB3 := Lib.hid hb3
  have Z2 := Lib.hid z2
  clear hb1 z0 hs1 hb2 hr2 hb3 z2 hk
  go_wp2_with (at_builtin; refine wpList_append_sl _ rfl (.tmp 8) (.tmp 11) _ rfl w.heap.size 60 2 16 _ Try.underlying68 pairInfo2 rfl (by omega) (.slice (some ⟨w.heap.size + 2, 0, none⟩) 9 9) 9 _ rfl (HK.out.alloc _) _ 2 2 [.int .i64 1, .int .i64 65535, .int .i64 (-65535), .int .i64 65535] rfl rfl (sl_new w2 [.int .i64 1, .int .i64 65535, .int .i64 (-65535), .int .i64 65535] _) ?c1 ?c2 ?c3 ?c4 ?_)
  case c1 => intro u hu; simp at hu; rcases hu with rfl | rfl | rfl | rfl <;> rfl
  case c2 => unfold maxLen; omega
  case c3 => omega
  case c4 => simp; omega
  intro v' w5 hown5 hg5 hat5
  obtain ⟨A5, c5, rfl⟩ := own_form hown5
  have HB5 : Hid (Below w.heap.size w w5) := (HB3.out.alloc (by omega) _).grown hg5 (by simp; omega) (fun k hk => by simp [Value.ownBlock] at hk; omega)
  have Z5 : Hid (w5.heap[w.heap.size]? = some (.cells #[.int .i64 1, .int .i64 8] 60 (0, 0))) := by
    refine (hg5.block _ (by simp; omega) ?_).trans ((Below.heap_alloc _ _ _ (by omega)).trans Z2.out)
    simp [Value.ownBlock]
  have S5 : Hid (Sl w5 A5 (pairCells (bndF 0))) := Sl.of_own hown5
  have hs5 : w.heap.size < w5.heap.size := (Array.getElem?_eq_some_iff.1 Z5.out).1
  clear hg5 hat5 hown5 HK HB3 Z2 hsz
  go_wp2_with fail
  go_ret
  have hb6 := (HB5.out.alloc (by omega) (.cells #[.int .i64 1, .int .i64 3] 60)).alloc (by simp; omega) (.cells #[.string (nameF 0), .slice A5 11 c5, .func (.func (reachN 0)) #[] #[], .func (.func (doN 0)) #[] #[], .bool false,
    .string (nameF 1), .slice (some ⟨w.heap.size, 0, none⟩) 1 1, .func (.func (reachN 1)) #[] #[], .func (.func (doN 1)) #[] #[], .bool false,
    .string (nameF 2), .slice (some ⟨w.heap.size, 0, none⟩) 1 1, .func (.func (reachN 2)) #[] #[], .func (.func (doN 2)) #[] #[], .bool false,
    .string (nameF 3), .slice none 0 0, .func (.func (reachN 3)) #[] #[], .func (.func (doN 3)) #[] #[], .bool false,
    .string (nameF 4), .slice none 0 0, .func (.func (reachN 4)) #[] #[], .func (.func (doN 4)) #[] #[], .bool false,
    .string (nameF 5), .slice (some ⟨w.heap.size, 0, none⟩) 1 1, .func (.func (reachN 5)) #[] #[], .func (.func (doN 5)) #[] #[], .bool true,
    .string (nameF 6), .slice (some ⟨w.heap.size, 0, none⟩) 1 1, .func (.func (reachN 6)) #[] #[], .func (.func (doN 6)) #[] #[], .bool true,
    .string (nameF 7), .slice (some ⟨w5.heap.size, 0, none⟩) 1 1, .func (.func (reachN 7)) #[] #[], .func (.func (doN 7)) #[] #[], .bool true,
    .string (nameF 8), .slice (some ⟨w.heap.size, 0, none⟩) 1 1, .func (.func (reachN 8)) #[] #[], .func (.func (doN 8)) #[] #[], .bool false] 72)
  have hb7 : ∀ o o2, Below w5.heap.size w5 ((w5.alloc o).alloc o2) := fun o o2 => ((Below.refl _ _).alloc (Nat.le_refl _) _).alloc (by simp) _
  have he : ∀ W, Below w5.heap.size w5 W → Sl W (some ⟨w.heap.size, 0, none⟩) [.int .i64 1, .int .i64 8] := by
    intro W hW j u hu
    refine ⟨w.heap.size, 0, rfl, ?_⟩
    refine (hW.cell (p := ⟨w.heap.size, 0 + j, none⟩) hs5).trans ?_
    simp only [World.cell?, Z5.out, Nat.zero_add]
    simpa using hu
  have h3 : ∀ o, Sl ((w5.alloc (.cells #[.int .i64 1, .int .i64 3] 60)).alloc o) (some ⟨w5.heap.size, 0, none⟩) [.int .i64 1, .int .i64 3] := fun o => (sl_new w5 [.int .i64 1, .int .i64 3] 60).alloc o
  refine ⟨w5.heap.size + 1, rfl, by omega, by simp, hb6, ?_⟩
  intro i hi
  have hcase : i = 0 ∨ i = 1 ∨ i = 2 ∨ i = 3 ∨ i = 4 ∨ i = 5 ∨ i = 6 ∨ i = 7 ∨ i = 8 := by omega
  rcases hcase with rfl | rfl | rfl | rfl | rfl | rfl | rfl | rfl | rfl
  · exact ⟨A5, c5, ⟨(World.cell?_alloc2_new _ _ _ _).trans rfl, (World.cell?_alloc2_new _ _ _ _).trans rfl, (World.cell?_alloc2_new _ _ _ _).trans rfl, (World.cell?_alloc2_new _ _ _ _).trans rfl, (World.cell?_alloc2_new _ _ _ _).trans rfl, S5.out.below (hb7 _ _) (Nat.le_refl _)⟩⟩
  · exact ⟨_, _, ⟨(World.cell?_alloc2_new _ _ _ _).trans rfl, (World.cell?_alloc2_new _ _ _ _).trans rfl, (World.cell?_alloc2_new _ _ _ _).trans rfl, (World.cell?_alloc2_new _ _ _ _).trans rfl, (World.cell?_alloc2_new _ _ _ _).trans rfl, he _ (hb7 _ _)⟩⟩
  · exact ⟨_, _, ⟨(World.cell?_alloc2_new _ _ _ _).trans rfl, (World.cell?_alloc2_new _ _ _ _).trans rfl, (World.cell?_alloc2_new _ _ _ _).trans rfl, (World.cell?_alloc2_new _ _ _ _).trans rfl, (World.cell?_alloc2_new _ _ _ _).trans rfl, he _ (hb7 _ _)⟩⟩
  · exact ⟨none, 0, ⟨(World.cell?_alloc2_new _ _ _ _).trans rfl, (World.cell?_alloc2_new _ _ _ _).trans rfl, (World.cell?_alloc2_new _ _ _ _).trans rfl, (World.cell?_alloc2_new _ _ _ _).trans rfl, (World.cell?_alloc2_new _ _ _ _).trans rfl, fun j u hu => by simp [pairCells, bndF] at hu⟩⟩
  · exact ⟨none, 0, ⟨(World.cell?_alloc2_new _ _ _ _).trans rfl, (World.cell?_alloc2_new _ _ _ _).trans rfl, (World.cell?_alloc2_new _ _ _ _).trans rfl, (World.cell?_alloc2_new _ _ _ _).trans rfl, (World.cell?_alloc2_new _ _ _ _).trans rfl, fun j u hu => by simp [pairCells, bndF] at hu⟩⟩
  · exact ⟨_, _, ⟨(World.cell?_alloc2_new _ _ _ _).trans rfl, (World.cell?_alloc2_new _ _ _ _).trans rfl, (World.cell?_alloc2_new _ _ _ _).trans rfl, (World.cell?_alloc2_new _ _ _ _).trans rfl, (World.cell?_alloc2_new _ _ _ _).trans rfl, he _ (hb7 _ _)⟩⟩
  · exact ⟨_, _, ⟨(World.cell?_alloc2_new _ _ _ _).trans rfl, (World.cell?_alloc2_new _ _ _ _).trans rfl, (World.cell?_alloc2_new _ _ _ _).trans rfl, (World.cell?_alloc2_new _ _ _ _).trans rfl, (World.cell?_alloc2_new _ _ _ _).trans rfl, he _ (hb7 _ _)⟩⟩
  · exact ⟨_, _, ⟨(World.cell?_alloc2_new _ _ _ _).trans rfl, (World.cell?_alloc2_new _ _ _ _).trans rfl, (World.cell?_alloc2_new _ _ _ _).trans rfl, (World.cell?_alloc2_new _ _ _ _).trans rfl, (World.cell?_alloc2_new _ _ _ _).trans rfl, h3 _⟩⟩
  · exact ⟨_, _, ⟨(World.cell?_alloc2_new _ _ _ _).trans rfl, (World.cell?_alloc2_new _ _ _ _).trans rfl, (World.cell?_alloc2_new _ _ _ _).trans rfl, (World.cell?_alloc2_new _ _ _ _).trans rfl, (World.cell?_alloc2_new _ _ _ _).trans rfl, he _ (hb7 _ _)⟩⟩
end Go.Proofs.Ytogmlcgiajigfaa.Ard
