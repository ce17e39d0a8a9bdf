/-
  Texts of this claim, joined by program (ArdP, ArdQ, ScM, StpA, ScP). Walks: the table of operators.
-/
import Derived.Test.YtoofgblmpjndjaaGreatDoorZG2
import Derived.Laws.CopyOwn
import Derived.Deep.LoopGhost
import Derived.Test.YtoofgblmpjndjaaGreatDoorZG1
import Derived.Recover
import Derived.Laws.Tables
import Derived.Laws.Rows
import Derived.Deep.RegionHeld3
import Derived.Lib.ItoaNum
import Derived.Lib.Atoi
set_option linter.unusedVariables false
set_option linter.unusedSimpArgs false
namespace Go.Proofs.YtoofgblmpjndjaaGreatDoor.Ard
open Go.RowKit K

def pairCells (l : List (Int × Int)) : List Value := l.flatMap fun p => [.int .i64 p.1, .int .i64 p.2]
def nameF : Nat → ByteArray
 | 0 => ⟨#[99, 111, 110, 118, 111, 108, 118, 101]⟩
 | 1 => ⟨#[98, 108, 117, 114]⟩
 | 2 => ⟨#[115, 104, 97, 114, 112, 101, 110]⟩
 | 3 => ⟨#[101, 100, 103, 101]⟩
 | 4 => ⟨#[101, 109, 98, 111, 115, 115]⟩
 | 5 => ⟨#[108, 101, 97, 115, 116]⟩
 | 6 => ⟨#[109, 111, 115, 116]⟩
 | 7 => ⟨#[109, 101, 100, 105, 97, 110]⟩
 | _ => ⟨#[108, 105, 110, 101, 115]⟩
def bndF : Nat → List (Int × Int)
 | 0 => List.replicate 9 (-1024, 1024) ++ [(1, 65535), (-65535, 65535)]
 | 3 => []
 | 4 => []
 | 7 => [(1, 3)]
 | _ => [(1, 8)]
def reachN : Nat → Nat
 | 0 => 214
 | 2 => 214
 | 3 => 214
 | 4 => 214
 | 8 => 231
 | _ => 217
def doN : Nat → Nat
 | 0 => 215
 | 1 => 218
 | 2 => 219
 | 3 => 221
 | 4 => 223
 | 5 => 224
 | 6 => 226
 | 7 => 228
 | _ => 218
def alphaF (i : Nat) : Bool := i == 5 || i == 6 || i == 7
structure OpAt (w : World) (g i : Nat) (B : Option Addr) (c : Nat) : Prop where
 c0 : w.cell? ⟨g, i * 5, none⟩ = some (.string (nameF i))
 c1 : w.cell? ⟨g, i * 5 + 1, none⟩ = some (.slice B (bndF i).length c)
 c2 : w.cell? ⟨g, i * 5 + 2, none⟩ = some (.func (.func (reachN i)) #[] #[])
 c3 : w.cell? ⟨g, i * 5 + 3, none⟩ = some (.func (.func (doN i)) #[] #[])
 c4 : w.cell? ⟨g, i * 5 + 4, none⟩ = some (.bool (alphaF i))
 bs : Sl w B (pairCells (bndF i))
def OpsP (w : World) (e : Ending) (w' : World) : Prop :=
 ∃ g, e = .returned (.slice (some ⟨g, 0, none⟩) 9 9) ∧ w.heap.size ≤ g ∧ g < w'.heap.size ∧ Below w.heap.size w w' ∧ ∀ i, i < 9 → ∃ B c, OpAt w' g i B c
theorem pairInfo2 : (Tryz.prog.info? 159).map (fun i => (i.zero, i.size, i.bytes)) = some (some (.agg #[.int .i64 0, .int .i64 0]), 2, 16) := by kernel_rfl
set_option maxRecDepth 20000 in
set_option maxHeartbeats 2000000 in
theorem operators_any (w : World) : Calls Tryz.prog 133 #[] w (OpsP w) := by
 go_enter Tryz.func133, Tryz.ntmps133
 go_wp2_with fail
 have hb1 := ((Below.refl w.heap.size w).alloc (Nat.le_refl _) (.cells #[.int .i64 1, .int .i64 8] 159)).alloc (by simp) (.cells #[.int .i64 (-1024), .int .i64 1024] 159)
 have z0 : ((w.alloc (.cells #[.int .i64 1, .int .i64 8] 159)).alloc (.cells #[.int .i64 (-1024), .int .i64 1024] 159)).heap[w.heap.size]? = some (.cells #[.int .i64 1, .int .i64 8] 159 (0, 0)) := (Below.heap_alloc _ _ _ (by simp)).trans (heap_alloc_new _ _)
 refine (repeat2_any (x := -1024) (y := 1024) _ (by have := sl_new (w.alloc (.cells #[.int .i64 1, .int .i64 8] 159)) [.int .i64 (-1024), .int .i64 1024] 159; rw [World.size_alloc] at this; exact this)).mono ?_
 rintro e w2 ⟨rfl, hR⟩
 have hs1 : ((w.alloc (.cells #[.int .i64 1, .int .i64 8] 159)).alloc (.cells #[.int .i64 (-1024), .int .i64 1024] 159)).heap.size = w.heap.size + 2 := by simp
 obtain ⟨hb2, hr2⟩ := hR
 rw [hs1] at hb2 hr2 ⊢
 have hb3 : Below w.heap.size w w2 := hb1.trans (hb2.mono (by omega))
 have z2 : w2.heap[w.heap.size]? = some (.cells #[.int .i64 1, .int .i64 8] 159 (0, 0)) := (hb2.block _ (by omega)).trans z0
 have hk : w2.ownsRow w.heap.size 159 2 (.slice (some ⟨w.heap.size + 2, 0, none⟩) 9 9) 9 (pairCells (List.replicate 9 (-1024, 1024))) := ⟨rfl, .inr ⟨_, _, _, rfl, by omega, hr2, Nat.le_refl _, by unfold maxLen; omega, rfl, rfl⟩⟩
 have hsz : w.heap.size + 2 < w2.heap.size := (Array.getElem?_eq_some_iff.1 hr2).1
 have HK := Lib.hid hk
 have HB3 := Lib.hid hb3
 have Z2 := Lib.hid z2
 clear hb1 z0 hs1 hb2 hr2 hb3 z2 hk
 go_wp2_with (at_builtin; refine wpList_append_sl _ rfl (.tmp 8) (.tmp 11) _ rfl w.heap.size 159 2 16 _ Tryz.underlying120 pairInfo2 rfl (by omega) (.slice (some ⟨w.heap.size + 2, 0, none⟩) 9 9) 9 _ rfl (HK.out.alloc _) _ 2 2 [.int .i64 1, .int .i64 65535, .int .i64 (-65535), .int .i64 65535] rfl rfl (sl_new w2 [.int .i64 1, .int .i64 65535, .int .i64 (-65535), .int .i64 65535] _) ?c1 ?c2 ?c3 ?c4 ?_)
 case c1 => intro u hu; simp at hu; rcases hu with rfl | rfl | rfl | rfl <;> rfl
 case c2 => unfold maxLen; omega
 case c3 => omega
 case c4 => simp; omega
 intro v' w5 hown5 hg5 hat5
 obtain ⟨A5, c5, rfl⟩ := own_form hown5
 have HB5 : Hid (Below w.heap.size w w5) := (HB3.out.alloc (by omega) _).grown hg5 (by simp; omega) (fun k hk => by simp [Value.ownBlock] at hk; omega)
 have Z5 : Hid (w5.heap[w.heap.size]? = some (.cells #[.int .i64 1, .int .i64 8] 159 (0, 0))) := by
  refine (hg5.block _ (by simp; omega) ?_).trans ((Below.heap_alloc _ _ _ (by omega)).trans Z2.out)
  simp [Value.ownBlock]
 have S5 : Hid (Sl w5 A5 (pairCells (bndF 0))) := Sl.of_own hown5
 have hs5 : w.heap.size < w5.heap.size := (Array.getElem?_eq_some_iff.1 Z5.out).1
 clear hg5 hat5 hown5 HK HB3 Z2 hsz
 go_wp2_with fail
 go_ret
 have hb6 := (HB5.out.alloc (by omega) (.cells #[.int .i64 1, .int .i64 3] 159)).alloc (by simp; omega) (.cells #[.string (nameF 0), .slice A5 11 c5, .func (.func (reachN 0)) #[] #[], .func (.func (doN 0)) #[] #[], .bool false,
  .string (nameF 1), .slice (some ⟨w.heap.size, 0, none⟩) 1 1, .func (.func (reachN 1)) #[] #[], .func (.func (doN 1)) #[] #[], .bool false,
  .string (nameF 2), .slice (some ⟨w.heap.size, 0, none⟩) 1 1, .func (.func (reachN 2)) #[] #[], .func (.func (doN 2)) #[] #[], .bool false,
  .string (nameF 3), .slice none 0 0, .func (.func (reachN 3)) #[] #[], .func (.func (doN 3)) #[] #[], .bool false,
  .string (nameF 4), .slice none 0 0, .func (.func (reachN 4)) #[] #[], .func (.func (doN 4)) #[] #[], .bool false,
  .string (nameF 5), .slice (some ⟨w.heap.size, 0, none⟩) 1 1, .func (.func (reachN 5)) #[] #[], .func (.func (doN 5)) #[] #[], .bool true,
  .string (nameF 6), .slice (some ⟨w.heap.size, 0, none⟩) 1 1, .func (.func (reachN 6)) #[] #[], .func (.func (doN 6)) #[] #[], .bool true,
  .string (nameF 7), .slice (some ⟨w5.heap.size, 0, none⟩) 1 1, .func (.func (reachN 7)) #[] #[], .func (.func (doN 7)) #[] #[], .bool true,
  .string (nameF 8), .slice (some ⟨w.heap.size, 0, none⟩) 1 1, .func (.func (reachN 8)) #[] #[], .func (.func (doN 8)) #[] #[], .bool false] 136)
 have hb7 : ∀ o o2, Below w5.heap.size w5 ((w5.alloc o).alloc o2) := fun o o2 => ((Below.refl _ _).alloc (Nat.le_refl _) _).alloc (by simp) _
 have he : ∀ W, Below w5.heap.size w5 W → Sl W (some ⟨w.heap.size, 0, none⟩) [.int .i64 1, .int .i64 8] := by
  intro W hW j u hu
  refine ⟨w.heap.size, 0, rfl, ?_⟩
  refine (hW.cell (p := ⟨w.heap.size, 0 + j, none⟩) hs5).trans ?_
  simp only [World.cell?, Z5.out, Nat.zero_add]
  simpa using hu
 have h3 : ∀ o, Sl ((w5.alloc (.cells #[.int .i64 1, .int .i64 3] 159)).alloc o) (some ⟨w5.heap.size, 0, none⟩) [.int .i64 1, .int .i64 3] := fun o => (sl_new w5 [.int .i64 1, .int .i64 3] 159).alloc o
 refine ⟨w5.heap.size + 1, rfl, by omega, by simp, hb6, ?_⟩
 intro i hi
 have hcase : i = 0 ∨ i = 1 ∨ i = 2 ∨ i = 3 ∨ i = 4 ∨ i = 5 ∨ i = 6 ∨ i = 7 ∨ i = 8 := by omega
 rcases hcase with rfl | rfl | rfl | rfl | rfl | rfl | rfl | rfl | rfl
 ·exact ⟨A5, c5, ⟨(World.cell?_alloc2_new _ _ _ _).trans rfl, (World.cell?_alloc2_new _ _ _ _).trans rfl, (World.cell?_alloc2_new _ _ _ _).trans rfl, (World.cell?_alloc2_new _ _ _ _).trans rfl, (World.cell?_alloc2_new _ _ _ _).trans rfl, S5.out.below (hb7 _ _) (Nat.le_refl _)⟩⟩
 ·exact ⟨_, _, ⟨(World.cell?_alloc2_new _ _ _ _).trans rfl, (World.cell?_alloc2_new _ _ _ _).trans rfl, (World.cell?_alloc2_new _ _ _ _).trans rfl, (World.cell?_alloc2_new _ _ _ _).trans rfl, (World.cell?_alloc2_new _ _ _ _).trans rfl, he _ (hb7 _ _)⟩⟩
 ·exact ⟨_, _, ⟨(World.cell?_alloc2_new _ _ _ _).trans rfl, (World.cell?_alloc2_new _ _ _ _).trans rfl, (World.cell?_alloc2_new _ _ _ _).trans rfl, (World.cell?_alloc2_new _ _ _ _).trans rfl, (World.cell?_alloc2_new _ _ _ _).trans rfl, he _ (hb7 _ _)⟩⟩
 ·exact ⟨none, 0, ⟨(World.cell?_alloc2_new _ _ _ _).trans rfl, (World.cell?_alloc2_new _ _ _ _).trans rfl, (World.cell?_alloc2_new _ _ _ _).trans rfl, (World.cell?_alloc2_new _ _ _ _).trans rfl, (World.cell?_alloc2_new _ _ _ _).trans rfl, fun j u hu => by simp [pairCells, bndF] at hu⟩⟩
 ·exact ⟨none, 0, ⟨(World.cell?_alloc2_new _ _ _ _).trans rfl, (World.cell?_alloc2_new _ _ _ _).trans rfl, (World.cell?_alloc2_new _ _ _ _).trans rfl, (World.cell?_alloc2_new _ _ _ _).trans rfl, (World.cell?_alloc2_new _ _ _ _).trans rfl, fun j u hu => by simp [pairCells, bndF] at hu⟩⟩
 ·exact ⟨_, _, ⟨(World.cell?_alloc2_new _ _ _ _).trans rfl, (World.cell?_alloc2_new _ _ _ _).trans rfl, (World.cell?_alloc2_new _ _ _ _).trans rfl, (World.cell?_alloc2_new _ _ _ _).trans rfl, (World.cell?_alloc2_new _ _ _ _).trans rfl, he _ (hb7 _ _)⟩⟩
 ·exact ⟨_, _, ⟨(World.cell?_alloc2_new _ _ _ _).trans rfl, (World.cell?_alloc2_new _ _ _ _).trans rfl, (World.cell?_alloc2_new _ _ _ _).trans rfl, (World.cell?_alloc2_new _ _ _ _).trans rfl, (World.cell?_alloc2_new _ _ _ _).trans rfl, he _ (hb7 _ _)⟩⟩
 ·exact ⟨_, _, ⟨(World.cell?_alloc2_new _ _ _ _).trans rfl, (World.cell?_alloc2_new _ _ _ _).trans rfl, (World.cell?_alloc2_new _ _ _ _).trans rfl, (World.cell?_alloc2_new _ _ _ _).trans rfl, (World.cell?_alloc2_new _ _ _ _).trans rfl, h3 _⟩⟩
 ·exact ⟨_, _, ⟨(World.cell?_alloc2_new _ _ _ _).trans rfl, (World.cell?_alloc2_new _ _ _ _).trans rfl, (World.cell?_alloc2_new _ _ _ _).trans rfl, (World.cell?_alloc2_new _ _ _ _).trans rfl, (World.cell?_alloc2_new _ _ _ _).trans rfl, he _ (hb7 _ _)⟩⟩
end Go.Proofs.YtoofgblmpjndjaaGreatDoor.Ard
set_option linter.unusedVariables false
set_option linter.unusedSimpArgs false
namespace Go.Proofs.YtoofgblmpjndjaaGreatDoor.Ard
open Go.RowKit K

def fitsB (b : List (Int × Int)) (a : List Int) : Bool := decide (a.length = b.length) && (List.range b.length).all fun i => decide ((b.getD i (0, 0)).1 ≤ a.getD i 0) && decide (a.getD i 0 ≤ (b.getD i (0, 0)).2)
def idxF (op : ByteArray) : Option Nat := (List.range 9).find? fun i => decide (nameF i = op)
def checkE (op : ByteArray) (a : List Int) : Int :=
 match idxF op with
 | none => 8
 | some i => if fitsB (bndF i) a then 0 else 190
def zeroOp : Array Value := #[.string ⟨#[]⟩, .slice none 0 0, .nilFunc, .nilFunc, .bool false]
def FindP (w : World) (op : ByteArray) (a : List Int) (e : Ending) (w' : World) : Prop :=
 Below w.heap.size w w' ∧ ((checkE op a ≠ 0 ∧ e = .returned (.tuple #[.agg zeroOp, .int .i64 (checkE op a)])) ∨
  (∃ i B n c, i < 9 ∧ checkE op a = 0 ∧ idxF op = some i ∧ fitsB (bndF i) a = true ∧ e = .returned (.tuple #[.agg #[.string (nameF i), .slice B n c, .func (.func (reachN i)) #[] #[], .func (.func (doN i)) #[] #[], .bool (alphaF i)], .int .i64 0])))
theorem OpAt.on {w w' : World} {g i : Nat} {B : Option Addr} {c : Nat} (h : OpAt w g i B c) (hb : Below w.heap.size w w') : OpAt w' g i B c := by
 have hg := World.block_lt_of_cell? w _ h.c0
 have hc : ∀ j, w'.cell? ⟨g, j, none⟩ = w.cell? ⟨g, j, none⟩ := fun j => hb.cell (p := ⟨g, j, none⟩) hg
 exact ⟨(hc _).trans h.c0, (hc _).trans h.c1, (hc _).trans h.c2, (hc _).trans h.c3, (hc _).trans h.c4, h.bs.below hb (Nat.le_refl _)⟩
theorem results_row_tmp {P : Program} {fn : Func} {p u : Tmp} {ty : TypeId} (h : fn.results = #[.cell p ty, .tmp u]) (tmps : Array Value) (w : World) (g : Nat) (t : TypeId) (cs : Array Value) (fr : Nat × Nat) (d : TypeDesc)
  (hp : tmps.getD p undef = .pointer (some ⟨g, 0, none⟩)) (hg : w.heap[g]? = some (.cells cs t fr))
  (hu : P.underlying ty = some d) (hd : (match d with | .struct _ | .array _ _ => true | _ => false) = true) (hi : (P.info? ty).map (·.size) = some cs.size) :
  (results fn tmps).run P w = .ok (.tuple #[.agg cs, tmps.getD u undef]) w := by
 have hp' : tmps[p]?.getD undef = .pointer (some ⟨g, 0, none⟩) := by simpa using hp
 simp [results, h, hp', asAddr, run_loadVar_row w g t ty cs fr d hg hu hd hi]
theorem wpList_store_rowW {P : Program} {ops : Array Oper} {rest : List Oper} {o : Oper} {a : Act} {w : World} {Q : Exit → Act → World → Prop} (hgd : o.guard = none) (ty : TypeId) (x y : Operand) (ho : o.op = .store ty x y)
  (g : Nat) (cells : Array Value) (hx : a.eval x = .pointer (some ⟨g, 0, none⟩)) (hy : a.eval y = .agg cells)
  (t : TypeId) (old : Array Value) (hg : w.heap[g]? = some (.cells old t (0, 0))) (hi : (P.info? ty).map (·.size) = some cells.size)
  (hold : old.size = cells.size) (h1 : cells.all (·.oneCell') = true) (B : Nat) (w0 : World) (hb : Below B w0 w) (hBg : B ≤ g)
  (h : ∀ W, Hid (W.heap[g]? = some (.cells cells t (0, 0))) → Hid (Below B w0 W) → Hid (W.heap.size = w.heap.size) → wpList P ops Q rest (a.put o.dst undef) W) : wpList P ops Q (o :: rest) a w :=
 wpList_store_row hgd ty x y ho g cells hx hy t old hg hi hold h1 (h _ (setRow_heap _ _ _ _ _ _ hg) (below_setRow hb hBg _) (by show _ = _; simp [World.setRow]))
def opCells (k : Nat) (B : Option Addr) (n c : Nat) : Array Value := #[.string (nameF k), .slice B n c, .func (.func (reachN k)) #[] #[], .func (.func (doN k)) #[] #[], .bool (alphaF k)]
theorem opAll (k : Nat) (B : Option Addr) (n c : Nat) : (opCells k B n c).all (·.oneCell') = true := by simp [opCells, Value.oneCell']
theorem row_cell {w : World} {g : Nat} {cs : Array Value} {t : TypeId} (h : w.heap[g]? = some (.cells cs t (0, 0))) (j : Nat) : w.cell? ⟨g, j, none⟩ = cs[j]? := by simp [World.cell?, h]
theorem row_frozen {w : World} {g : Nat} {cs : Array Value} {t : TypeId} (h : w.heap[g]? = some (.cells cs t (0, 0))) (j : Nat) : w.frozen? ⟨g, j, none⟩ = false := by simp [World.frozen?, h]
theorem bytes_beq {a b : ByteArray} : (a.toList == b.toList) = decide (a = b) := by
 by_cases h : a = b
 ·simp [h]
 ·have : a.toList ≠ b.toList := fun e => h (by
   rw [ByteArray.toList_eq, ByteArray.toList_eq] at e
   cases a; cases b
   simp at e
   rw [e])
  simp [h, this]
theorem pairCells_at (l : List (Int × Int)) : ∀ (j : Nat) (h : j < l.length), (pairCells l)[j * 2]? = some (.int .i64 (l.getD j (0, 0)).1) ∧ (pairCells l)[j * 2 + 1]? = some (.int .i64 (l.getD j (0, 0)).2) := by
 induction l with
 | nil => intro j h; simp at h
 | cons p l ih =>
  intro j h
  cases j with
  | zero => exact ⟨rfl, rfl⟩
  | succ j =>
   have := ih j (by simpa using h)
   have e1 : (j + 1) * 2 = j * 2 + 1 + 1 := by omega
   rw [e1]
   simpa [pairCells, List.getD] using this
theorem idxF_at {op : ByteArray} {k : Nat} (hk : k < 9) (h : ∀ i, i < k → nameF i ≠ op) (he : nameF k = op) : idxF op = some k := by
 unfold idxF
 rw [List.find?_eq_some_iff_append]
 refine ⟨by simp [he], List.range k, (List.range (8 - k)).map (· + (k + 1)), ?_, ?_⟩
 ·have h1 : (9 : Nat) = k + (1 + (8 - k)) := by omega
  rw [h1, List.range_add, List.range_add]
  simp [Nat.add_assoc, Nat.add_comm, Nat.add_left_comm]
 ·intro i hi
  simp at hi
  simp [h i hi]
theorem bndF_len (k : Nat) : (bndF k).length ≤ 11 := by
 unfold bndF
 split <;> simp
theorem zeroAll : zeroOp.all (·.oneCell') = true := by simp [zeroOp, Value.oneCell']
theorem opInfo : (Tryz.prog.info? 136).map (·.size) = some 5 := by kernel_rfl
set_option maxRecDepth 20000 in
set_option maxHeartbeats 2000000 in
theorem find_any {op : ByteArray} {A : Option Addr} {n c : Nat} {a : List Int} (w : World) (HA : SI w .i64 A n a) : Calls Tryz.prog 106 #[.string op, .slice A n c] w (FindP w op a) := by
 go_enter Tryz.func106, Tryz.ntmps106
 go_wp2_with fail
 go_step3
 go_wp2_with fail
 go_step3
 go_wp2_with fail
 refine (operators_any _).mono ?_
 rintro e wb ⟨g, rfl, hgl, hg, hbb, hops⟩
 have z0 : wb.heap[w.heap.size]? = some (.cells zeroOp 136 (0, 0)) := (hbb.block _ (by simp)).trans (heap_alloc_new w _)
 have Z0 := Lib.hid z0
 have HBB := Lib.hid hbb
 have HOPS := Lib.hid hops
 clear z0 hbb hops
 go_wp2_with fail
 go_loopg [6, 13] 9 (fun gh s6 s13 wr => ∃ k : Nat, k + gh = 9 ∧ s6 = .int .i64 8 ∧ s13 = .int .i64 k ∧ (∀ i, i < k → nameF i ≠ op) ∧ Below wb.heap.size wb wr)
 case atStart => exact ⟨0, by omega, rfl, rfl, fun i hi => by omega, Below.refl _ _⟩
 case round =>
  obtain ⟨k, hkg, rfl, rfl, hno, hbr⟩ := hrel
  have HNO := Lib.hid hno
  have HBR := Lib.hid hbr
  have hz : wr.heap[w.heap.size]? = some (.cells zeroOp 136 (0, 0)) := (hbr.block _ (Array.getElem?_eq_some_iff.1 Z0.out).1).trans Z0.out
  have HZ := Lib.hid hz
  have HB : Hid (Below w.heap.size w wr) := ((Below.refl w.heap.size w).alloc (Nat.le_refl _) _).trans ((HBB.out.mono (by simp)).trans (hbr.mono (by have := HBB.out.size; rw [World.size_alloc] at this; omega)))
  clear hno hbr hz
  cases gk with
  | zero =>
   obtain rfl : k = 9 := by omega
   simp only [Int.cast_ofNat_Int]
   have HE : Hid (checkE op a = 8) := by
    have : idxF op = none := by
     unfold idxF
     rw [List.find?_eq_none]
     intro i hi
     simp at hi
     simp [HNO.out i hi]
    show _ = _
    unfold checkE; rw [this]
   go_wp2_with (refine wpList_store_row rfl 136 (.tmp 4) (.tmp 54) rfl w.heap.size zeroOp rfl rfl 136 zeroOp HZ.out opInfo rfl zeroAll ?_)
   try rw [Exit.noGoto_ret]
   refine bodyPost_ret (results_row_tmp rfl _ _ w.heap.size 136 zeroOp (0, 0) _ rfl (setRow_heap _ _ _ _ _ _ HZ.out) Tryz.underlying136 rfl opInfo) rfl ?_
   exact ⟨below_setRow HB.out (Nat.le_refl _) _, .inl ⟨by rw [HE.out]; omega, by rw [HE.out]; rfl⟩⟩
  | succ gko =>
   obtain ⟨wo, rfl⟩ : ∃ wo, wo = wr := ⟨_, rfl⟩
   have hk9 : k < 9 := by omega
   obtain ⟨B, bc, hop⟩ := HOPS.out k hk9
   have hopr := hop.on HBR.out
   have d0 : decide ((k : Int) < 9) = true := decide_eq_true (by omega)
   have i0 : (0 : Int) ≤ (k : Int) := by omega
   have i1 : (k : Int) < 9 := by omega
   by_cases he : nameF k = op
   ·have HID : Hid (idxF op = some k) := idxF_at hk9 HNO.out he
    have hnn : ((nameF k).toList == op.toList) = true := by rw [bytes_beq]; simpa using he
    obtain ⟨z0, z1, z2, z3, z4, hbs⟩ := hopr
    have HBS := Lib.hid hbs
    clear hop hbs he
    by_cases hl : n = (bndF k).length
    ·go_wp2_with (refine wpList_store_rowW rfl 136 (.tmp 8) (.tmp 16) rfl wo.heap.size (opCells k B (bndF k).length bc) rfl rfl 136 zeroOp (heap_alloc_new wo _) opInfo rfl (opAll _ _ _ _) wo.heap.size wo ((Below.refl _ _).alloc (Nat.le_refl _) _) (Nat.le_refl _) ?_; intro W HW1 HW2 HW3; have y0 : W.cell? ⟨wo.heap.size, 0, none⟩ = some (.string (nameF k)) := row_cell HW1.out 0; have y1 : W.cell? ⟨wo.heap.size, 1, none⟩ = some (.slice B (bndF k).length bc) := row_cell HW1.out 1)
     have hsW : W.heap.size = wo.heap.size + 1 := by rw [HW3.out]; simp
     have HSW := Lib.hid hsW
     clear hsW
     go_loopg [30] (bndF k).length (fun gh s30 wr => ∃ j : Nat, j + gh = (bndF k).length ∧ s30 = .int .i64 j ∧ (∀ i, i < j → ((bndF k).getD i (0, 0)).1 ≤ a.getD i 0 ∧ a.getD i 0 ≤ ((bndF k).getD i (0, 0)).2) ∧ Below W.heap.size W wr)
     case atStart => exact ⟨0, by omega, rfl, fun i hi => by omega, Below.refl _ _⟩
     case round =>
      obtain ⟨j, hjg, rfl, hin, hb2⟩ := hrel
      have HIN := Lib.hid hin
      have HB2 := Lib.hid hb2
      have hr1 : wr.heap[wo.heap.size]? = some (.cells (opCells k B (bndF k).length bc) 136 (0, 0)) := (hb2.block _ (by have := HSW.out; omega)).trans HW1.out
      have hrz : wr.heap[w.heap.size]? = some (.cells zeroOp 136 (0, 0)) := (hb2.block _ (by have := HSW.out; have := (Array.getElem?_eq_some_iff.1 HZ.out).1; omega)).trans ((HW2.out.block _ (Array.getElem?_eq_some_iff.1 HZ.out).1).trans HZ.out)
      have HR1 := Lib.hid hr1
      have HRZ := Lib.hid hrz
      have HBW : Hid (Below w.heap.size w wr) := (HB.out.trans (HW2.out.mono HB.out.size)).trans (hb2.mono (by have := HSW.out; have := HB.out.size; omega))
      clear hin hb2 hr1 hrz
      cases gk with
      | zero =>
       obtain rfl : j = (bndF k).length := by omega
       have HE : Hid (checkE op a = 0 ∧ fitsB (bndF k) a = true) := by
        have : fitsB (bndF k) a = true := by
         unfold fitsB
         rw [HA.len, hl]
         simp only [decide_true, Bool.true_and, List.all_eq_true, List.mem_range, Bool.and_eq_true, decide_eq_true_eq]
         exact fun i hi => HIN.out i hi
        refine ⟨?_, this⟩
        unfold checkE
        rw [HID.out]; simp [this]
       have d1 : decide (((bndF k).length : Int) < ((bndF k).length : Int)) = false := by simp
       have HN : Hid (n = (bndF k).length) := hl
       go_wp2_with (first
        | (refine wpList_load_row rfl 136 (.tmp 8) rfl wo.heap.size rfl 136 (opCells k B (bndF k).length bc) (0, 0) _ HR1.out Tryz.underlying136 rfl opInfo ?_)
        | (refine wpList_store_row rfl 136 (.tmp 4) (.tmp 52) rfl w.heap.size (opCells k B (bndF k).length bc) rfl rfl 136 zeroOp HRZ.out opInfo rfl (opAll _ _ _ _) ?_))
       try rw [Exit.noGoto_ret]
       refine bodyPost_ret (results_row_tmp rfl _ _ w.heap.size 136 (opCells k B (bndF k).length bc) (0, 0) _ rfl (setRow_heap _ _ _ _ _ _ HRZ.out) Tryz.underlying136 rfl opInfo) rfl ?_
       exact ⟨below_setRow HBW.out (Nat.le_refl _) _, .inr ⟨k, B, (bndF k).length, bc, hk9, HE.out.1, HID.out, HE.out.2, rfl⟩⟩
      | succ gk =>
       have hj : j < (bndF k).length := by omega
       have HJG : Hid (j + 1 + gk = (bndF k).length) := by show _ = _; omega
       have HWJ : Hid (wrap64 ((j : Int) + 1) = ((j + 1 : Nat) : Int)) := by show _ = _; have := bndF_len k; rw [IntWalk.wrap64_in _ (by omega)]; rfl
       have d1 : decide ((j : Int) < ((bndF k).length : Int)) = true := decide_eq_true (by omega)
       obtain ⟨p1, p2⟩ := pairCells_at (bndF k) j hj
       obtain ⟨b, off, rfl, hc1⟩ := HBS.out _ _ p1
       obtain ⟨b', off', e', hc2⟩ := HBS.out _ _ p2
       injection e' with e'
       injection e' with e1 e2
       subst e1 e2
       have hbo : b < wo.heap.size := World.block_lt_of_cell? wo _ hc1
       have hup : ∀ q, wr.cell? ⟨b, q, none⟩ = wo.cell? ⟨b, q, none⟩ := fun q => (HB2.out.cell (p := ⟨b, q, none⟩) (by have := HSW.out; show b < _; omega)).trans (HW2.out.cell (p := ⟨b, q, none⟩) hbo)
       have x1 := (hup _).trans hc1
       have x2 := (hup _).trans hc2
       rw [← Nat.add_assoc] at x2
       obtain ⟨ab, ao, av, rfl, ac, hav, -⟩ := (HA.below HBW.out (Nat.le_refl _)).cells (i := j) (by omega)
       have HAV : Hid (a.getD j 0 = av) := getD_at hav.out
       have hab : ab < wr.heap.size := World.block_lt_of_cell? wr _ ac
       have ac2 : ∀ o, (wr.alloc o).cell? ⟨ab, ao + j, none⟩ = some (.int .i64 av) := fun o => (((Below.refl wr.heap.size wr).alloc (Nat.le_refl _) o).cell (p := ⟨ab, ao + j, none⟩) hab).trans ac
       have j0 : (0 : Int) ≤ (j : Int) := by omega
       have j1 : (j : Int) < ((bndF k).length : Int) := by omega
       have HL := Lib.hid hl
       generalize hlo : ((bndF k).getD j (0, 0)).1 = lo at x1
       generalize hhi : ((bndF k).getD j (0, 0)).2 = hi at x2
       have HLO := Lib.hid hlo
       have HHI := Lib.hid hhi
       have HRZ2 : Hid (∀ o n, ((wr.alloc o).drewN n).heap[w.heap.size]? = some (.cells zeroOp 136 (0, 0))) := fun o n => (Below.heap_alloc _ _ _ (Array.getElem?_eq_some_iff.1 HRZ.out).1).trans HRZ.out
       have HBW2 : Hid (∀ o n, Below w.heap.size w ((wr.alloc o).drewN n)) := fun o n => Go.Proofs.YtoofgblmpjndjaaGreatDoor.K.below_drewN (HBW.out.alloc HBW.out.size o) n
       clear hup hc1 hc2 hbo p1 p2 hav hlo hhi
       by_cases hin2 : lo ≤ av ∧ av ≤ hi
       ·have t1 : decide (av < lo) = false := decide_eq_false (by omega)
        have t2 : decide (hi < av) = false := decide_eq_false (by omega)
        have HIN2 := Lib.hid hin2
        clear hin2 hl
        go_wp2_with fail
        go_quiet (fail)
        go_wp2_with fail
        go_roundg gk
        case rel => exact ⟨j + 1, HJG.out, by rw [HWJ.out], fun i hi => by
         rcases Nat.lt_or_ge i j with h | h
         ·exact HIN.out i h
         ·obtain rfl : i = j := by omega
          rw [HAV.out, HLO.out, HHI.out]; exact HIN2.out, Go.Proofs.YtoofgblmpjndjaaGreatDoor.K.below_drewN (HB2.out.alloc HB2.out.size _) _⟩
        case measure => omega
       ·have HE : Hid (checkE op a = 190) := by
         have : fitsB (bndF k) a = false := by
          unfold fitsB
          rw [Bool.and_eq_false_iff]
          refine .inr ?_
          rw [List.all_eq_false]
          refine ⟨j, by simpa using hj, ?_⟩
          rw [HAV.out, HLO.out, HHI.out]
          simp; omega
         show _ = _
         unfold checkE
         rw [HID.out]; simp [this]
        rcases Decidable.em (av < lo) with h1 | h1
        ·have t1 : decide (av < lo) = true := decide_eq_true h1
         clear hin2 hl h1
         go_wp2_with fail
         go_quiet (fail)
         go_wp2_with (refine wpList_store_row rfl 136 (.tmp 4) (.tmp 54) rfl w.heap.size zeroOp rfl rfl 136 zeroOp (HRZ2.out _ _) opInfo rfl zeroAll ?_)
         try rw [Exit.noGoto_ret]
         refine bodyPost_ret (results_row_tmp rfl _ _ w.heap.size 136 zeroOp (0, 0) _ rfl (setRow_heap _ _ _ _ _ _ (HRZ2.out _ _)) Tryz.underlying136 rfl opInfo) rfl ?_
         exact ⟨below_setRow (HBW2.out _ _) (Nat.le_refl _) _, .inl ⟨by rw [HE.out]; omega, by rw [HE.out]; rfl⟩⟩
        ·have t1 : decide (av < lo) = false := decide_eq_false h1
         have t2 : decide (hi < av) = true := decide_eq_true (by omega)
         clear hin2 hl h1
         go_wp2_with fail
         go_quiet (fail)
         go_wp2_with (refine wpList_store_row rfl 136 (.tmp 4) (.tmp 54) rfl w.heap.size zeroOp rfl rfl 136 zeroOp (HRZ2.out _ _) opInfo rfl zeroAll ?_)
         try rw [Exit.noGoto_ret]
         refine bodyPost_ret (results_row_tmp rfl _ _ w.heap.size 136 zeroOp (0, 0) _ rfl (setRow_heap _ _ _ _ _ _ (HRZ2.out _ _)) Tryz.underlying136 rfl opInfo) rfl ?_
         exact ⟨below_setRow (HBW2.out _ _) (Nat.le_refl _) _, .inl ⟨by rw [HE.out]; omega, by rw [HE.out]; rfl⟩⟩
    ·have hl1 : ((n : Int) == ((bndF k).length : Int)) = false := by simp; omega
     have HE : Hid (checkE op a = 190) := by
      have : fitsB (bndF k) a = false := by
       unfold fitsB
       rw [HA.len]; simp [hl]
      show _ = _
      unfold checkE
      rw [HID.out]; simp [this]
     clear hl
     go_wp2_with (first
      | (refine wpList_store_rowW rfl 136 (.tmp 8) (.tmp 16) rfl wo.heap.size (opCells k B (bndF k).length bc) rfl rfl 136 zeroOp (heap_alloc_new wo _) opInfo rfl (opAll _ _ _ _) wo.heap.size wo ((Below.refl _ _).alloc (Nat.le_refl _) _) (Nat.le_refl _) ?_; intro W HW1 HW2 HW3; have y0 : W.cell? ⟨wo.heap.size, 0, none⟩ = some (.string (nameF k)) := row_cell HW1.out 0; have y1 : W.cell? ⟨wo.heap.size, 1, none⟩ = some (.slice B (bndF k).length bc) := row_cell HW1.out 1; have HZ2 : Hid (W.heap[w.heap.size]? = some (.cells zeroOp 136 (0, 0))) := (HW2.out.block _ (Array.getElem?_eq_some_iff.1 HZ.out).1).trans HZ.out)
      | (refine wpList_store_row rfl 136 (.tmp 4) (.tmp 54) rfl w.heap.size zeroOp rfl rfl 136 zeroOp HZ2.out opInfo rfl zeroAll ?_))
     try rw [Exit.noGoto_ret]
     refine bodyPost_ret (results_row_tmp rfl _ _ w.heap.size 136 zeroOp (0, 0) _ rfl (setRow_heap _ _ _ _ _ _ HZ2.out) Tryz.underlying136 rfl opInfo) rfl ?_
     exact ⟨below_setRow (HB.out.trans (HW2.out.mono HB.out.size)) (Nat.le_refl _) _, .inl ⟨by rw [HE.out]; omega, by rw [HE.out]; rfl⟩⟩
   ·have HNE := Lib.hid he
    obtain ⟨z0, z1, z2, z3, z4, -⟩ := hopr
    have hnn : ((nameF k).toList == op.toList) = false := by rw [bytes_beq]; simpa using he
    clear hop he
    go_wp2_with (refine wpList_store_rowW rfl 136 (.tmp 8) (.tmp 16) rfl wo.heap.size (opCells k B (bndF k).length bc) rfl rfl 136 zeroOp (heap_alloc_new wo _) opInfo rfl (opAll _ _ _ _) wo.heap.size wo ((Below.refl _ _).alloc (Nat.le_refl _) _) (Nat.le_refl _) ?_; intro W HW1 HW2 HW3; have y0 : W.cell? ⟨wo.heap.size, 0, none⟩ = some (.string (nameF k)) := row_cell HW1.out 0)
    go_roundg gko
    case rel => exact ⟨k + 1, by omega, rfl, by go_num, fun i hi => by
      rcases Nat.lt_or_ge i k with h | h
      ·exact HNO.out i h
      ·obtain rfl : i = k := by omega
       exact HNE.out, HBR.out.trans (HW2.out.mono (by have := HBR.out.size; omega))⟩
    case measure => omega
end Go.Proofs.YtoofgblmpjndjaaGreatDoor.Ard
set_option linter.unusedVariables false
set_option linter.unusedSimpArgs false
namespace Go.Proofs.YtoofgblmpjndjaaGreatDoor.Scr
open Go.RowKit K

abbrev Tx := List UInt8
def ba (t : Tx) : ByteArray := ⟨t.toArray⟩
theorem ba_of (b : ByteArray) : ba b.data.toList = b := by cases b; rfl
theorem ba_list (t : Tx) : (ba t).data.toList = t := rfl
theorem ba_size (t : Tx) : (ba t).size = t.length := rfl
theorem ba_inj {s t : Tx} (h : ba s = ba t) : s = t := by have := congrArg (fun b : ByteArray => b.data.toList) h; exact this
def isLet (c : UInt8) : Bool := decide (97 ≤ c.toNat ∧ c.toNat ≤ 122)
def isDig (c : UInt8) : Bool := decide (48 ≤ c.toNat ∧ c.toNat ≤ 57)
def kind (more : Tx) (c : UInt8) : Bool := isLet c || isDig c || more.contains c
def madeB (more : Tx) (s : Tx) : Bool := decide (1 ≤ s.length ∧ s.length ≤ 16) && s.all (kind more)
def nameB (s : Tx) : Bool := madeB [95] s && isLet (s.getD 0 0)
def fileB (s : Tx) : Bool := madeB [95, 46, 45] s
def digV (l : Tx) : Int := l.foldl (fun v c => 10 * v + ((c.toNat : Int) - 48)) 0
def digB (l : Tx) : Bool := decide (1 ≤ l.length ∧ l.length ≤ 9) && l.all isDig
def numM (s : Tx) : Option Int :=
 match s with
 | [] => none
 | c :: r => if c = 45 then (if digB r then some (-(digV r)) else none) else if digB (c :: r) then some (digV (c :: r)) else none
def numsM : List Tx → Option (List Int)
 | [] => some []
 | s :: r => match numM s with
  | none => none
  | some v => match numsM r with
   | none => none
   | some l => some (v :: l)
def isBl (c : UInt8) : Bool := c == 32 || c == 9 || c == 13
def fieldsM : Tx → Tx → List Tx
 | [], cur => if cur = [] then [] else [cur]
 | c :: r, cur => if isBl c then (if cur = [] then fieldsM r [] else cur :: fieldsM r []) else fieldsM r (cur ++ [c])
def wordsM (t : Tx) : List Tx := (fieldsM t []).takeWhile fun w => w.getD 0 0 != 35
def linesM : Tx → Tx → List Tx
 | [], cur => [cur]
 | c :: r, cur => if c = 10 then cur :: linesM r [] else linesM r (cur ++ [c])
def within (b : Int × Int) (v : Int) : Bool := decide (b.1 ≤ v ∧ v ≤ b.2)
def fitM : List (Int × Int) → List Int → Bool
 | [], [] => true
 | b :: bs, v :: vs => within b v && fitM bs vs
 | _, _ => false
def pts : List (Tx × List (Int × Int)) := [
 ([105, 110, 118, 101, 114, 116], []),
 ([103, 114, 101, 121], []),
 ([116, 104, 114, 101, 115, 104, 111, 108, 100], [(0, 65535)]),
 ([108, 101, 118, 101, 108, 115], [(0, 65535), (0, 65535)]),
 ([115, 113, 117, 101, 101, 122, 101], [(0, 65535), (0, 65535)]),
 ([97, 100, 100], [(-65535, 65535)]),
 ([115, 99, 97, 108, 101], [(0, 65535), (1, 65535)]),
 ([112, 111, 115, 116, 101, 114, 105, 122, 101], [(2, 256)]),
 ([115, 111, 108, 97, 114, 105, 122, 101], [(0, 65535)]),
 ([103, 97, 109, 109, 97], [(1, 3)]),
 ([115, 119, 97, 112], [(1, 5)]),
 ([99, 104, 97, 110, 110, 101, 108], [(0, 3)]),
 ([115, 101, 112, 105, 97], []),
 ([116, 105, 110, 116], [(0, 65535), (0, 65535), (0, 65535), (0, 256)]),
 ([111, 112, 97, 113, 117, 101], []),
 ([97, 108, 112, 104, 97], [(0, 256)]),
 ([102, 108, 97, 116, 116, 101, 110], [(0, 65535), (0, 65535), (0, 65535)]),
 ([107, 101, 121], [(0, 65535), (0, 65535), (0, 65535), (0, 65535)]),
 ([99, 104, 101, 99, 107, 101, 114], [(1, 4096)]),
 ([102, 97, 100, 101], [])]
def mvs : List (Tx × List (Int × Int)) := [
 ([99, 114, 111, 112], [(0, 4095), (0, 4095), (1, 4096), (1, 4096)]),
 ([102, 108, 105, 112], []),
 ([102, 108, 111, 112], []),
 ([114, 111, 116, 97, 116, 101], [(1, 3)]),
 ([116, 114, 97, 110, 115, 112, 111, 115, 101], []),
 ([116, 114, 97, 110, 115, 118, 101, 114, 115, 101], []),
 ([114, 111, 108, 108], [(-4096, 4096), (-4096, 4096)]),
 ([114, 101, 115, 105, 122, 101], [(1, 4096), (1, 4096)]),
 ([122, 111, 111, 109], [(1, 64)]),
 ([116, 105, 108, 101], [(1, 64), (1, 64)]),
 ([101, 120, 116, 101, 110, 100], [(0, 4096), (0, 4096), (0, 4096), (0, 4096)]),
 ([102, 114, 97, 109, 101], [(1, 1024), (0, 65535), (0, 65535), (0, 65535), (0, 65535)]),
 ([115, 104, 114, 105, 110, 107], [(1, 64)]),
 ([116, 114, 105, 109], [])]
def ard : List (Tx × List (Int × Int)) := [
 ([99, 111, 110, 118, 111, 108, 118, 101], [(-1024, 1024), (-1024, 1024), (-1024, 1024), (-1024, 1024), (-1024, 1024), (-1024, 1024), (-1024, 1024), (-1024, 1024), (-1024, 1024), (1, 65535), (-65535, 65535)]),
 ([98, 108, 117, 114], [(1, 8)]),
 ([115, 104, 97, 114, 112, 101, 110], [(1, 8)]),
 ([101, 100, 103, 101], []),
 ([101, 109, 98, 111, 115, 115], []),
 ([108, 101, 97, 115, 116], [(1, 8)]),
 ([109, 111, 115, 116], [(1, 8)]),
 ([109, 101, 100, 105, 97, 110], [(1, 3)]),
 ([108, 105, 110, 101, 115], [(1, 8)])]
def bld : List (Tx × List (Int × Int)) := [
 ([111, 118, 101, 114], [(-4096, 4096), (-4096, 4096)]),
 ([112, 108, 117, 115], []),
 ([109, 105, 110, 117, 115], []),
 ([116, 105, 109, 101, 115], []),
 ([115, 99, 114, 101, 101, 110], []),
 ([100, 105, 102, 102, 101, 114], []),
 ([108, 105, 103, 104, 116, 101, 114], []),
 ([100, 97, 114, 107, 101, 114], []),
 ([109, 105, 120], [(0, 256)]),
 ([109, 97, 115, 107], []),
 ([98, 101, 115, 105, 100, 101], []),
 ([98, 101, 108, 111, 119], [])]
def fmtsM : List Tx := [[112, 110, 109], [98, 109, 112], [112, 110, 103], [103, 105, 102], [116, 105, 102, 102], [106, 112, 101, 103]]
def findM (t : List (Tx × List (Int × Int))) (op : Tx) : Option (List (Int × Int)) := (t.find? fun p => p.1 == op).map (·.2)
def chkM (t : List (Tx × List (Int × Int))) (op : Tx) (a : List Int) : Int :=
 match findM t op with
 | none => 8
 | some b => if fitM b a then 0 else 190
def moreB (op : Tx) (a : List Int) : Bool :=
 (op == [108, 101, 118, 101, 108, 115] && decide (a.getD 1 0 ≤ a.getD 0 0)) || (op == [115, 113, 117, 101, 101, 122, 101] && decide (a.getD 1 0 < a.getD 0 0))
def ptsM (op : Tx) (a : List Int) : Int :=
 match findM pts op with
 | none => 8
 | some b => if fitM b a && !moreB op a then 0 else 190
def checkM (op : Tx) (a : List Int) : Int × Nat :=
 if ptsM op a ≠ 8 then (ptsM op a, 1) else if chkM mvs op a ≠ 8 then (chkM mvs op a, 1) else if chkM ard op a ≠ 8 then (chkM ard op a, 1) else (chkM bld op a, 2)
def formatB : List Int → Bool
 | [] => false
 | k :: r =>
  if k = 1 then fitM [(1, 6), (1, 65535)] r
  else if k = 2 then fitM [(0, 1)] r
  else if k = 3 then fitM [(0, 6), (8, 16)] r && [0, 2, 4, 6].contains (r.getD 0 0) && [8, 16].contains (r.getD 1 0)
  else if k = 4 then r.isEmpty
  else if k = 5 then fitM [(1, 32773), (8, 16)] r && [1, 5, 8, 32773].contains (r.getD 0 0) && [8, 16].contains (r.getD 1 0)
  else if k = 6 then fitM [(1, 100), (0, 2)] r
  else false
def fillB (a : List Int) : Bool := fitM [(1, 4096), (1, 4096), (0, 65535), (0, 65535), (0, 65535), (0, 65535)] a && decide (a.getD 0 0 * a.getD 1 0 ≤ 65536)
structure St where
 op : Tx
 dst : Tx
 srcs : List Tx
 file : Tx
 args : List Int
def fmtN (s : Tx) : Int := if s ∈ fmtsM then (fmtsM.findIdx (· == s) : Int) + 1 else 0
def stepM (w : List Tx) : Option St :=
 let op := w.getD 0 []
 if op = [114, 101, 97, 100] then (if w.length = 3 ∧ nameB (w.getD 1 []) = true ∧ fileB (w.getD 2 []) = true then some ⟨op, w.getD 1 [], [], w.getD 2 [], []⟩ else none)
 else if op = [119, 114, 105, 116, 101] then
  (if 4 ≤ w.length ∧ nameB (w.getD 1 []) = true ∧ fileB (w.getD 2 []) = true then
   match numsM (w.drop 4) with
   | none => none
   | some l => if formatB (fmtN (w.getD 3 []) :: l) then some ⟨op, [], [w.getD 1 []], w.getD 2 [], fmtN (w.getD 3 []) :: l⟩ else none
  else none)
 else if op = [102, 105, 108, 108] then
  (if 2 ≤ w.length ∧ nameB (w.getD 1 []) = true then
   match numsM (w.drop 2) with
   | none => none
   | some l => if fillB l then some ⟨op, w.getD 1 [], [], [], l⟩ else none
  else none)
 else
  (if 2 + (checkM op []).2 ≤ w.length ∧ nameB (w.getD 1 []) = true ∧ ((w.drop 2).take (checkM op []).2).all nameB = true then
   match numsM (w.drop (2 + (checkM op []).2)) with
   | none => none
   | some l => if (checkM op l).1 = 0 then some ⟨op, w.getD 1 [], (w.drop 2).take (checkM op []).2, [], l⟩ else none
  else none)
inductive Ans where
 | ok (l : List (Int × St))
 | err (line e : Int)
def linesP : List Tx → Int → List (Int × St) → List Tx → Ans
 | [], _, out, _ => .ok out
 | t :: r, n, out, known =>
  if wordsM t = [] then linesP r (n + 1) out known else
  match stepM (wordsM t) with
  | none => .err (n + 1) 7
  | some s =>
   if 64 ≤ out.length then .err (n + 1) 7
   else if s.srcs.all known.contains then linesP r (n + 1) (out ++ [(n + 1, s)]) (s.dst :: known)
   else .err (n + 1) 8
def parseM (t : Tx) : Ans := if 8192 < t.length then .err 0 3 else linesP (linesM t []) 0 [] []
end Go.Proofs.YtoofgblmpjndjaaGreatDoor.Scr
set_option linter.unusedVariables false
set_option linter.unusedSimpArgs false
namespace Go.Proofs.YtoofgblmpjndjaaGreatDoor.Scr
open Go.RowKit K Go.Lib

def stC (line : Int) (op dst : ByteArray) (A : Option Addr) (n c : Nat) (file : ByteArray) (A2 : Option Addr) (m c2 : Nat) : Array Value := #[.int .i64 line, .string op, .string dst, .slice A n c, .string file, .slice A2 m c2]
def st0 : Array Value := #[.int .i64 0, .string ⟨#[]⟩, .string ⟨#[]⟩, .slice none 0 0, .string ⟨#[]⟩, .slice none 0 0]
theorem st0_size : st0.size = 6 := rfl
theorem st0_one : st0.all (·.oneCell') = true := by simp [st0, Value.oneCell']
theorem wpList_store_rowG {P : Program} {ops : Array Oper} {rest : List Oper} {o : Oper} {a : Act} {w : World} {Q : Exit → Act → World → Prop} (hgd : o.guard = none) (ty : TypeId) (x y : Operand) (ho : o.op = .store ty x y)
  (g : Nat) (cells : Array Value) (hx : a.eval x = .pointer (some ⟨g, 0, none⟩)) (hy : a.eval y = .agg cells)
  (t : TypeId) (old : Array Value) (hg : w.heap[g]? = some (.cells old t (0, 0))) (hi : (P.info? ty).map (·.size) = some cells.size)
  (hold : old.size = cells.size) (h1 : cells.all (·.oneCell') = true)
  (h : ∀ W, W.heap[g]? = some (.cells cells t (0, 0)) → w.grownBy W (some g) → wpList P ops Q rest (a.put o.dst undef) W) : wpList P ops Q (o :: rest) a w :=
 wpList_store_row hgd ty x y ho g cells hx hy t old hg hi hold h1 (h _ (setRow_heap _ _ _ _ _ _ hg) ⟨rfl, rfl, rfl, by simp [World.setRow], fun b hb hne => setRow_other _ _ _ _ (fun e => hne (by rw [e]))⟩)
theorem infoSt : (Tryz.prog.info? 37).map (·.size) = some 6 := by kernel_rfl
set_option maxRecDepth 20000 in
theorem catch_bad {cs_1 : Array Value} {x : Bool} (S O : Nat) (w : World) (hne : S < O) (hcs : cs_1.size = 6) (hs : w.heap[S]? = some (.cells cs_1 37 (0, 0))) (ho : w.heap[O]? = some (.cells #[.bool x] 4 (0, 0))) :
  CallsD Tryz.prog 44 #[.pointer (some ⟨S, 0, none⟩), .pointer (some ⟨O, 0, none⟩)] (.panicking [{ v := .iface 78 (.agg #[]), recovered := false }]) w fun e u' w' =>
   e = .returned (.tuple #[]) ∧ u' = .panicking [{ v := .iface 78 (.agg #[]), recovered := true }] ∧ w'.heap[S]? = some (.cells st0 37 (0, 0)) ∧ w'.heap[O]? = some (.cells #[.bool false] 4 (0, 0)) ∧ Below S w w' := by
 refine callsD_of_wpS Tryz.func44 rfl fun c₀ cs hu => ?_
 apply wpS_seq
 apply wpS_region
 simp [wpOpsS, go_sem, recoverD, hu, Tryz.ntmps44, Exit.thenS]
 apply wpS_seq
 apply wpS_region
 simp [wpOpsS, go_sem, Exit.thenS]
 refine wpS_cond (t := true) (by simp [Act.eval, Array.replicate]) ?_
 simp only [if_true]
 refine wpS_of_wp ?_
 simp only [Array.replicate_succ, Array.replicate_zero, List.push_toArray, List.append_toArray, List.nil_append, List.cons_append, List.setIfInBounds_toArray, List.set_cons_zero, List.set_cons_succ]
 have hta : ∀ w, (Instr.typeAssert (.iface 78 (.agg #[])) 20 78 true).run Tryz.prog w = .ok (.tuple #[.agg #[], .bool true]) w := fun w => by kernel_rfl
 have hl : S < w.heap.size := (Array.getElem?_eq_some_iff.1 hs).1
 have hlo : O < w.heap.size := (Array.getElem?_eq_some_iff.1 ho).1
 have h2 := Lib.hid ((heap_alloc_old w (.cells #[] 78) hl).trans hs)
 have h3 := Lib.hid ((heap_alloc_old w (.cells #[] 78) hlo).trans ho)
 have hb1 : Hid (Below S w (w.alloc (.cells #[] 78))) := (Below.refl S w).alloc (Nat.le_of_lt hl) _
 have HNE := Lib.hid hne
 have HCS := Lib.hid hcs
 have HU := Lib.hid hu
 have HLO := Lib.hid hlo
 have HL := Lib.hid hl
 clear hs ho hl hlo hne hcs hu
 go_wp2_with (first | (refine wpList_store_rowG rfl 37 (.tmp 0) (.tmp 16) rfl S st0 rfl rfl 37 cs_1 h2.out (by rw [st0_size]; exact infoSt) (by rw [st0_size]; exact HCS.out) st0_one ?_) | fail)
 intro W hW hg
 have c1 : W.cell? ⟨O, 0, none⟩ = some (.bool x) := by
  have := (hg.block O (by simp; have := HLO.out; omega) (by have := HNE.out; simp; omega)).trans h3.out
  simp [World.cell?, this]
 have c2 : W.frozen? ⟨O, 0, none⟩ = false := by
  have := (hg.block O (by simp; have := HLO.out; omega) (by have := HNE.out; simp; omega)).trans h3.out
  simp [World.frozen?, this]
 have HW := Lib.hid hW
 have HG := Lib.hid hg
 clear hW hg
 obtain ⟨W2, hW2, f1, f2, f3⟩ : ∃ W2, W.setCell ⟨O, 0, none⟩ (.bool false) = W2 ∧ W2.heap[S]? = some (.cells st0 37 (0, 0)) ∧ W2.heap[O]? = some (.cells #[.bool false] 4 (0, 0)) ∧ Below S w W2 := by
  refine ⟨_, rfl, (heap_setCell_other W ⟨O, 0, none⟩ S _ (by have := HNE.out; show S ≠ O; omega)).trans HW.out, ?_, ?_⟩
  ·have := (HG.out.block O (by simp; have := HLO.out; omega) (by have := HNE.out; simp; omega)).trans h3.out
   exact heap_setCell_same W O 0 _ _ _ this
  ·refine Below.setCell ?_ (p := ⟨O, 0, none⟩) (Nat.le_of_lt HNE.out) _
   exact hb1.out.grown HG.out (by simp; have := HL.out; omega) (fun k e => by injection e with e; omega)
 have F := Lib.hid (And.intro f1 (And.intro f2 f3))
 clear f1 f2 f3
 go_wp2_with fail
 cases c₀
 have hu := HU.out
 simp only at hu
 subst hu
 simp [bodyPostS, results, Tryz.results44, Exit.thenS]
 exact F.out
theorem catch_idle (S O : Nat) (w : World) :
  CallsD Tryz.prog 44 #[.pointer (some ⟨S, 0, none⟩), .pointer (some ⟨O, 0, none⟩)] .returning w fun e u' w' => e = .returned (.tuple #[]) ∧ u' = .returning ∧ w' = w := by
 refine callsD_of_wpS Tryz.func44 rfl fun c₀ cs hu => ?_
 apply wpS_seq
 apply wpS_region
 simp [wpOpsS, go_sem, recoverD, hu, Tryz.ntmps44, Exit.thenS]
 apply wpS_seq
 apply wpS_region
 simp [wpOpsS, go_sem, Exit.thenS]
 refine wpS_cond (t := false) (by simp [Act.eval, Array.replicate]) ?_
 simp only [Bool.false_eq_true, if_false]
 refine wpS_of_wp ?_
 go_wp2
 cases c₀
 simp_all [bodyPostS, results, Tryz.results44, Exit.thenS]
structure SQ (w W : World) (op dst : ByteArray) (A : Option Addr) (n c : Nat) (file : ByteArray) (A2 : Option Addr) (m c2 : Nat) : Prop where
 bel : Below w.heap.size w W
 s : W.heap[w.heap.size]? = some (.cells (stC 0 op dst A n c file A2 m c2) 37 (0, 0))
 o : W.heap[w.heap.size + 1]? = some (.cells #[.bool false] 4 (0, 0))
section
variable {w W : World} {op dst : ByteArray} {A : Option Addr} {n c : Nat} {file : ByteArray} {A2 : Option Addr} {m c2 : Nat}
theorem SQ.lt (h : SQ w W op dst A n c file A2 m c2) : w.heap.size + 1 < W.heap.size := (Array.getElem?_eq_some_iff.1 h.o).1
theorem SQ.start (w : World) : SQ w ((w.alloc (.cells #[.int .i64 0, .string ⟨#[]⟩, .string ⟨#[]⟩, .slice none 0 0, .string ⟨#[]⟩, .slice none 0 0] 37)).alloc (.cells #[.bool false] 4)) ⟨#[]⟩ ⟨#[]⟩ none 0 0 ⟨#[]⟩ none 0 0 :=
 ⟨((Below.refl _ w).alloc (Nat.le_refl _) _).alloc (by simp) _, (heap_alloc_old (w.alloc _) _ (by simp)).trans (heap_alloc_new w _), by
  have := heap_alloc_new (w.alloc (.cells #[.int .i64 0, .string ⟨#[]⟩, .string ⟨#[]⟩, .slice none 0 0, .string ⟨#[]⟩, .slice none 0 0] 37)) (.cells #[.bool false] 4)
  rwa [World.size_alloc] at this⟩
theorem SQ.on (h : SQ w W op dst A n c file A2 m c2) {W2 : World} (hb : Below (w.heap.size + 2) W W2) : SQ w W2 op dst A n c file A2 m c2 :=
 ⟨h.bel.trans (hb.mono (by omega)), (hb.block _ (by omega)).trans h.s, (hb.block _ (by omega)).trans h.o⟩
theorem SQ.cells (h : SQ w W op dst A n c file A2 m c2) : (W.cell? ⟨w.heap.size, 1, none⟩ = some (.string op) ∧ W.cell? ⟨w.heap.size, 2, none⟩ = some (.string dst) ∧ W.cell? ⟨w.heap.size, 3, none⟩ = some (.slice A n c) ∧ W.cell? ⟨w.heap.size, 4, none⟩ = some (.string file) ∧ W.cell? ⟨w.heap.size, 5, none⟩ = some (.slice A2 m c2) ∧ W.cell? ⟨w.heap.size + 1, 0, none⟩ = some (.bool false)) ∧
  (∀ i, W.frozen? ⟨w.heap.size, i, none⟩ = false) ∧ W.frozen? ⟨w.heap.size + 1, 0, none⟩ = false := by
 have e := h.s
 have e2 := h.o
 refine ⟨⟨Ard.row_cell e 1, Ard.row_cell e 2, Ard.row_cell e 3, Ard.row_cell e 4, Ard.row_cell e 5, Ard.row_cell e2 0⟩, fun i => Ard.row_frozen e i, Ard.row_frozen e2 0⟩
theorem SQ.set (h : SQ w W op dst A n c file A2 m c2) (i : Nat) (v : Value) {op' dst' : ByteArray} {A' : Option Addr} {n' c' : Nat} {file' : ByteArray} {A2' : Option Addr} {m' c2' : Nat}
  (e : (stC 0 op dst A n c file A2 m c2).setIfInBounds i v = stC 0 op' dst' A' n' c' file' A2' m' c2') : SQ w (W.setCell ⟨w.heap.size, i, none⟩ v) op' dst' A' n' c' file' A2' m' c2' :=
 ⟨h.bel.setCell (p := ⟨w.heap.size, i, none⟩) (Nat.le_refl _) _, by rw [← e]; exact heap_setCell_same W _ i _ _ v h.s, (heap_setCell_other W ⟨w.heap.size, i, none⟩ _ _ (by show w.heap.size + 1 ≠ w.heap.size; omega)).trans h.o⟩
theorem SQ.setOp (h : SQ w W op dst A n c file A2 m c2) (v : ByteArray) : SQ w (W.setCell ⟨w.heap.size, 1, none⟩ (.string v)) v dst A n c file A2 m c2 := h.set 1 _ rfl
theorem SQ.setDst (h : SQ w W op dst A n c file A2 m c2) (v : ByteArray) : SQ w (W.setCell ⟨w.heap.size, 2, none⟩ (.string v)) op v A n c file A2 m c2 := h.set 2 _ rfl
theorem SQ.setSrcs (h : SQ w W op dst A n c file A2 m c2) (A' : Option Addr) (n' c' : Nat) : SQ w (W.setCell ⟨w.heap.size, 3, none⟩ (.slice A' n' c')) op dst A' n' c' file A2 m c2 := h.set 3 _ rfl
theorem SQ.setFile (h : SQ w W op dst A n c file A2 m c2) (v : ByteArray) : SQ w (W.setCell ⟨w.heap.size, 4, none⟩ (.string v)) op dst A n c v A2 m c2 := h.set 4 _ rfl
theorem SQ.setArgs (h : SQ w W op dst A n c file A2 m c2) (A' : Option Addr) (n' c' : Nat) : SQ w (W.setCell ⟨w.heap.size, 5, none⟩ (.slice A' n' c')) op dst A n c file A' n' c' := h.set 5 _ rfl
end
def NoP (w : World) (e : Ending) (w' : World) : Prop := e = .returned (.tuple #[.agg st0, .bool false]) ∧ Below w.heap.size w w'
def YesSt (w : World) (op dst : ByteArray) (A : Option Addr) (n c : Nat) (file : ByteArray) (A2 : Option Addr) (m c2 : Nat) (e : Ending) (w' : World) : Prop := e = .returned (.tuple #[.agg (stC 0 op dst A n c file A2 m c2), .bool true]) ∧ Below w.heap.size w w'
end Go.Proofs.YtoofgblmpjndjaaGreatDoor.Scr
set_option linter.unusedVariables false
set_option linter.unusedSimpArgs false
namespace Go.Proofs.YtoofgblmpjndjaaGreatDoor.Scr
open Go.RowKit K Go.Lib

theorem digV_snoc (l : Tx) (c : UInt8) : digV (l ++ [c]) = 10 * digV l + ((c.toNat : Int) - 48) := by unfold digV; rw [List.foldl_append]; rfl
theorem dig_of (d : Nat) (h : d < 10) : isDig (UInt8.ofNat (48 + d)) = true ∧ (UInt8.ofNat (48 + d)).toNat = 48 + d := by
 have e : (UInt8.ofNat (48 + d)).toNat = 48 + d := by rw [UInt8.toNat_ofNat']; omega
 exact ⟨by unfold isDig; rw [e]; exact decide_eq_true (by omega), e⟩
theorem dec_facts (u : Nat) : (decDigits u).all isDig = true ∧ digV (decDigits u) = (u : Int) ∧ decDigits u ≠ [] := by
  by_cases h : u < 10
  ·rw [decDigits, dif_pos h]
   obtain ⟨h1, h2⟩ := dig_of u h
   refine ⟨by rw [List.all_cons, h1]; rfl, ?_, by simp⟩
   show digV ([] ++ [_]) = _
   rw [digV_snoc, h2]
   show 10 * (0 : Int) + _ = _
   omega
  ·rw [decDigits, dif_neg h]
   obtain ⟨i1, i2, i3⟩ := dec_facts (u / 10)
   obtain ⟨h1, h2⟩ := dig_of (u % 10) (by omega)
   refine ⟨by rw [List.all_append, List.all_cons, List.all_nil, i1, h1]; rfl, ?_, by simp⟩
   rw [digV_snoc, h2, i2]
   omega
termination_by u
decreasing_by omega
theorem dec_len {u : Nat} (h : u ≤ 999999999) : 1 ≤ (decDigits u).length ∧ (decDigits u).length ≤ 9 := by
 rw [decDigits_length]
 refine ⟨nDigits_pos u, ?_⟩
 rcases Nat.lt_or_ge u 10 with h1 | h1
 ·rw [nDigits_small h1]; omega
 ·obtain ⟨k, hk⟩ : ∃ k, nDigits u = k + 1 := ⟨nDigits u - 1, by have := nDigits_pos u; omega⟩
  rcases Nat.lt_or_ge k 9 with h2 | h2
  ·omega
  ·exfalso
   have h3 : ∀ (n : Nat) (v : Nat), v < 10 ^ n → 1 ≤ n → nDigits v ≤ n := by
    intro n
    induction n with
    | zero => intro v _ h0; omega
    | succ n ih =>
     intro v hv _
     by_cases hs : v < 10
     ·rw [nDigits_small hs]; omega
     ·rw [nDigits_big hs]
      have hn : 1 ≤ n := by
       rcases Nat.eq_zero_or_pos n with rfl | hp
       ·simp at hv; omega
       ·exact hp
      have := ih (v / 10) (by rw [Nat.pow_succ] at hv; omega) hn
      omega
   have := h3 9 u (by omega) (by omega)
   omega
theorem digB_dec {u : Nat} (h : u ≤ 999999999) : digB (decDigits u) = true := by
 unfold digB
 rw [(dec_facts u).1, decide_eq_true (dec_len h)]; rfl
theorem dec_head (u : Nat) : ∃ c r, decDigits u = c :: r ∧ isDig c = true := by
 obtain ⟨h1, -, h3⟩ := dec_facts u
 match hd : decDigits u with
 | [] => exact absurd hd h3
 | c :: r => rw [hd] at h1; simp at h1; exact ⟨c, r, rfl, h1.1⟩
theorem dig_ne {c : UInt8} (h : isDig c = true) : c ≠ 45 ∧ c ≠ 43 := by
 unfold isDig at h
 have := of_decide_eq_true h
 constructor <;> (rintro rfl; revert this; decide)
theorem numM_cons (c : UInt8) (r : Tx) : numM (c :: r) = if c = 45 then (if digB r then some (-(digV r)) else none) else if digB (c :: r) then some (digV (c :: r)) else none := rfl
theorem num_itoa {n : Int} (h0 : -999999999 ≤ n) (h1 : n ≤ 999999999) : numM (itoa n) = some n := by
 unfold itoa
 by_cases hn : n < 0
 ·rw [if_pos hn]
  rw [numM_cons, if_pos rfl, if_pos (digB_dec (by omega)), (dec_facts _).2.1]
  congr 1
  omega
 ·rw [if_neg hn]
  obtain ⟨c, r, hc, hd⟩ := dec_head n.toNat
  have hb := digB_dec (u := n.toNat) (by omega)
  have hv := (dec_facts n.toNat).2.1
  rw [hc] at hb hv ⊢
  rw [numM_cons, if_neg (dig_ne hd).1, if_pos hb, hv]
  congr 1
  omega
theorem nums_itoa : ∀ (l : List Int), (∀ v ∈ l, -999999999 ≤ v ∧ v ≤ 999999999) → numsM (l.map itoa) = some l
 | [], _ => rfl
 | v :: l, h => by
  show (match numM (itoa v) with | none => none | some v => match numsM (l.map itoa) with | none => none | some l => some (v :: l)) = _
  rw [num_itoa (h v (by simp)).1 (h v (by simp)).2, nums_itoa l (fun u hu => h u (by simp [hu]))]
theorem digV_bd : ∀ (n : Nat) (l : Tx), l.length = n → l.all isDig = true → 0 ≤ digV l ∧ digV l < 10 ^ n := by
 intro n
 induction n with
 | zero => intro l hl _; obtain rfl := List.eq_nil_of_length_eq_zero hl; exact ⟨by show (0 : Int) ≤ 0; omega, by show (0 : Int) < 10 ^ 0; omega⟩
 | succ n ih =>
  intro l hl ha
  have hne : l ≠ [] := by rintro rfl; simp at hl
  obtain ⟨m, c, rfl⟩ : ∃ m c, l = m ++ [c] := ⟨l.dropLast, l.getLast hne, (List.dropLast_concat_getLast hne).symm⟩
  simp at hl
  rw [List.all_append] at ha
  simp at ha
  obtain ⟨i1, i2⟩ := ih m hl (by simpa using ha.1)
  have hc : 48 ≤ c.toNat ∧ c.toNat ≤ 57 := of_decide_eq_true ha.2
  rw [digV_snoc, Int.pow_succ]
  omega
theorem num_bd {s : Tx} {v : Int} (h : numM s = some v) : -999999999 ≤ v ∧ v ≤ 999999999 := by
 have hb : ∀ l, digB l = true → 0 ≤ digV l ∧ digV l ≤ 999999999 := fun l hl => by
  unfold digB at hl
  rw [Bool.and_eq_true] at hl
  obtain ⟨h1, h2⟩ := hl
  have h3 := of_decide_eq_true h1
  have h4 := digV_bd l.length l rfl h2
  have h5 : (10 : Int) ^ l.length ≤ 10 ^ 9 := by
   have : (10 : Nat) ^ l.length ≤ 10 ^ 9 := Nat.pow_le_pow_right (by omega) h3.2
   exact_mod_cast this
  omega
 match s, h with
 | c :: r, h =>
  rw [numM_cons] at h
  split at h
  ·split at h
   ·rename_i hd
    have := hb r hd
    injection h with h
    omega
   ·cases h
  ·split at h
   ·rename_i hd
    have := hb _ hd
    injection h with h
    omega
   ·cases h
theorem nums_bd : ∀ {l : List Tx} {a : List Int}, numsM l = some a → ∀ v ∈ a, -999999999 ≤ v ∧ v ≤ 999999999
 | [], a, h, v, hv => by injection h with h; subst h; cases hv
 | s :: r, a, h, v, hv => by
  unfold numsM at h
  split at h
  ·cases h
  ·rename_i v0 h0
   split at h
   ·cases h
   ·rename_i l0 h1
    injection h with h
    subst h
    rcases List.mem_cons.1 hv with rfl | hv
    ·exact num_bd h0
    ·exact nums_bd h1 v hv
theorem decFrom_dig : ∀ (l : Tx) (acc : Nat), l.all isDig = true → ∃ m : Nat, decFrom acc l = some m ∧ (m : Int) = l.foldl (fun v c => 10 * v + ((c.toNat : Int) - 48)) (acc : Int)
 | [], acc, _ => ⟨acc, rfl, rfl⟩
 | c :: r, acc, h => by
  simp only [List.all_cons, Bool.and_eq_true] at h
  have hc : 48 ≤ c.toNat ∧ c.toNat ≤ 57 := of_decide_eq_true h.1
  obtain ⟨m, h1, h2⟩ := decFrom_dig r (acc * 10 + (c.toNat - 48)) h.2
  refine ⟨m, ?_, ?_⟩
  ·unfold decFrom
   rw [show digitVal c = some (c.toNat - 48) from if_pos hc]
   exact h1
  ·rw [h2, List.foldl_cons]
   congr 1
   omega
theorem decNat_dig {l : Tx} (h : digB l = true) : ∃ m : Nat, decNat l = some m ∧ (m : Int) = digV l := by
 unfold digB at h
 rw [Bool.and_eq_true] at h
 have h1 := of_decide_eq_true h.1
 obtain ⟨m, h2, h3⟩ := decFrom_dig l 0 h.2
 refine ⟨m, ?_, h3⟩
 unfold decNat
 rw [if_neg (by cases l with | nil => simp at h1 | cons _ _ => simp)]
 exact h2
theorem atoi_cons (b : UInt8) (r : Tx) : atoi (b :: r) = if b == 45 then (decNat r).map fun (m : Nat) => -(m : Int)
  else if b == 43 then (decNat r).map fun (m : Nat) => (m : Int)
  else (decNat (b :: r)).map fun (m : Nat) => (m : Int) := rfl
theorem atoi_of {s : Tx} {v : Int} (h : numM s = some v) : atoi s = some v := by
 match s, h with
 | c :: r, h =>
  rw [numM_cons] at h
  rw [atoi_cons]
  by_cases hc : c = 45
  ·rw [if_pos hc] at h
   rw [if_pos (by simp [hc])]
   split at h
   ·rename_i hd
    obtain ⟨m, h1, h2⟩ := decNat_dig hd
    rw [h1]
    injection h with h
    rw [← h, ← h2]
    rfl
   ·cases h
  ·rw [if_neg hc] at h
   rw [if_neg (by simp [hc])]
   split at h
   ·rename_i hd
    have hdc : isDig c = true := by unfold digB at hd; simp at hd; exact hd.2.1
    rw [if_neg (by simp [(dig_ne hdc).2])]
    obtain ⟨m, h1, h2⟩ := decNat_dig hd
    rw [h1]
    injection h with h
    rw [← h, ← h2]
    rfl
   ·cases h
def joinM : List Tx → Tx
 | [] => []
 | [w] => w
 | w :: r => w ++ 32 :: joinM r
theorem fields_join : ∀ (ws : List Tx), (∀ w ∈ ws, w ≠ [] ∧ ∀ c ∈ w, isBl c = false) → fieldsM (joinM ws) [] = ws
 | [], _ => rfl
 | [w], h => by
  obtain ⟨h1, h2⟩ := h w (by simp)
  show fieldsM w [] = [w]
  have hf : ∀ (w cur : Tx), (∀ c ∈ w, isBl c = false) → fieldsM w cur = if cur ++ w = [] then [] else [cur ++ w] := by
   intro w
   induction w with
   | nil => intro cur _; simp [fieldsM]
   | cons c r ih =>
    intro cur hc
    unfold fieldsM
    rw [if_neg (by rw [hc c (by simp)]; simp), ih (cur ++ [c]) (fun d hd => hc d (by simp [hd]))]
    simp
  rw [hf w [] h2, if_neg (by simpa using h1)]
  simp
 | w :: x :: r, h => by
  obtain ⟨h1, h2⟩ := h w (by simp)
  show fieldsM (w ++ 32 :: joinM (x :: r)) [] = _
  have hf : ∀ (w cur t : Tx), (∀ c ∈ w, isBl c = false) → fieldsM (w ++ 32 :: t) cur = if cur ++ w = [] then fieldsM t [] else (cur ++ w) :: fieldsM t [] := by
   intro w
   induction w with
   | nil =>
    intro cur t _
    rw [List.nil_append, List.append_nil]
    show (if isBl 32 = true then _ else _) = _
    rw [if_pos (by decide)]
   | cons c r ih =>
    intro cur t hc
    rw [List.cons_append]
    show (if isBl c = true then _ else fieldsM (r ++ 32 :: t) (cur ++ [c])) = _
    rw [if_neg (by rw [hc c (by simp)]; simp), ih (cur ++ [c]) t (fun d hd => hc d (by simp [hd]))]
    simp
  rw [hf w [] _ h2, if_neg (by simpa using h1), fields_join (x :: r) (fun u hu => h u (by simp [hu]))]
  rfl
def okC (c : UInt8) : Bool := isLet c || isDig c || c == 95 || c == 46 || c == 45
def clean (w : Tx) : Prop := w ≠ [] ∧ ∀ c ∈ w, okC c = true
theorem okC_facts {c : UInt8} (h : okC c = true) : isBl c = false ∧ c ≠ 10 ∧ c ≠ 35 ∧ c ≠ 13 ∧ c ≠ 9 := by
 have hall : ∀ n : Fin 256, okC (UInt8.ofNat n.val) = true → isBl (UInt8.ofNat n.val) = false ∧ UInt8.ofNat n.val ≠ 10 ∧ UInt8.ofNat n.val ≠ 35 ∧ UInt8.ofNat n.val ≠ 13 ∧ UInt8.ofNat n.val ≠ 9 := by decide +kernel
 have := hall ⟨c.toNat, c.toNat_lt⟩
 rw [show UInt8.ofNat (⟨c.toNat, c.toNat_lt⟩ : Fin 256).val = c by simp] at this
 exact this h
theorem takeWhile_all {α : Type} {p : α → Bool} : ∀ {l : List α}, (∀ x ∈ l, p x = true) → l.takeWhile p = l
 | [], _ => rfl
 | a :: r, h => by rw [List.takeWhile_cons, if_pos (h a (by simp)), takeWhile_all (fun x hx => h x (by simp [hx]))]
theorem words_join {ws : List Tx} (h : ∀ w ∈ ws, clean w) : wordsM (joinM ws) = ws := by
 unfold wordsM
 rw [fields_join ws (fun w hw => ⟨(h w hw).1, fun c hc => (okC_facts ((h w hw).2 c hc)).1⟩)]
 refine takeWhile_all fun w hw => ?_
 obtain ⟨h1, h2⟩ := h w hw
 match w, h1 with
 | c :: r, _ =>
  have := (okC_facts (h2 c (by simp))).2.2.1
  simpa using this
theorem join_clean : ∀ {ws : List Tx}, (∀ w ∈ ws, clean w) → ∀ c ∈ joinM ws, okC c = true ∨ c = 32
 | [], _, c, hc => by cases hc
 | [w], h, c, hc => .inl ((h w (by simp)).2 c hc)
 | w :: x :: r, h, c, hc => by
  rcases List.mem_append.1 hc with hc | hc
  ·exact .inl ((h w (by simp)).2 c hc)
  ·rcases List.mem_cons.1 hc with rfl | hc
   ·exact .inr rfl
   ·exact join_clean (ws := x :: r) (fun u hu => h u (by simp [hu])) c hc
theorem kind_ok {more : Tx} (hm : ∀ c ∈ more, okC c = true) {c : UInt8} (h : kind more c = true) : okC c = true := by
 unfold kind at h
 simp only [Bool.or_eq_true, List.contains_iff_mem] at h
 rcases h with (h | h) | h
 ·unfold okC; simp [h]
 ·unfold okC; simp [h]
 ·exact hm c h
theorem made_clean {more s : Tx} (hm : ∀ c ∈ more, okC c = true) (h : madeB more s = true) : clean s := by
 unfold madeB at h
 rw [Bool.and_eq_true] at h
 have h1 := of_decide_eq_true h.1
 refine ⟨by rintro rfl; simp at h1, fun c hc => kind_ok hm (List.all_eq_true.1 h.2 c hc)⟩
theorem name_clean {s : Tx} (h : nameB s = true) : clean s := by
 unfold nameB at h
 rw [Bool.and_eq_true] at h
 exact made_clean (by decide) h.1
theorem file_clean {s : Tx} (h : fileB s = true) : clean s := made_clean (by decide) h
theorem itoa_clean (n : Int) : clean (itoa n) := by
 have hd : ∀ u, ∀ c ∈ decDigits u, okC c = true := fun u c hc => by
  have := List.all_eq_true.1 (dec_facts u).1 c hc
  unfold okC; simp [this]
 unfold itoa
 split
 ·refine ⟨by simp, fun c hc => ?_⟩
  rcases List.mem_cons.1 hc with rfl | hc
  ·decide
  ·exact hd _ c hc
 ·exact ⟨(dec_facts _).2.2, hd _⟩
def argsW (op : Tx) : List Int → List Tx
 | [] => []
 | k :: l => if op = [119, 114, 105, 116, 101] then fmtsM.getD (k - 1).toNat [] :: l.map itoa else (k :: l).map itoa
def spellW (s : St) : List Tx := s.op :: ((if s.dst = [] then [] else [s.dst]) ++ (s.srcs ++ ((if s.file = [] then [] else [s.file]) ++ argsW s.op s.args)))
end Go.Proofs.YtoofgblmpjndjaaGreatDoor.Scr
