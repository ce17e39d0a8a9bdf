/-
  The reference's step: its memory, what it answers, how it ends.
-/
import Derived.Test.YtoofgblmpjndjaaGreatDoorZG13
import Derived.Test.YtoofgblmpjndjaaGreatDoorZG14
import Derived.Test.YtoofgblmpjndjaaGreatDoorZG15
import Derived.Test.YtoofgblmpjndjaaGreatDoorZG7
set_option linter.unusedVariables false
set_option linter.unusedSimpArgs false
namespace Go.Proofs.YtoofgblmpjndjaaGreatDoor.Scr
open Go.RowKit K Go.Lib

theorem yields_row {P : Program} {ops : Array Oper} {S : World → Prop} {op : Oper} {a : Act} (hw : Region.wanted op (yielded ops a.tmps) = true) (ty : TypeId) (x : Operand) (ho : op.op = .load ty x)
  (g : Nat) (hx : a.eval x = .pointer (some ⟨g, 0, none⟩)) (t : TypeId) (cs : Array Value) (fr : Nat × Nat) (d : TypeDesc) (hg : ∀ w, S w → w.heap[g]? = some (.cells cs t fr))
  (hu : P.underlying ty = some d) (hd : (match d with | .struct _ | .array _ _ => true | _ => false) = true) (hi : (P.info? ty).map (·.size) = some cs.size) : YieldsIf P ops S op (.agg cs) a :=
 .inl ⟨hw, fun w hS => by
  unfold execOp
  simp only [ho, hx, Instr.loadAt, Instr.sureAddr, Sem.run_bind, Sem.run_pure, Result.andThen_ok, run_loadVar_row w g t ty cs fr d (hg w hS) hu hd hi]⟩
theorem wp_store_rowG {P : Program} {o : Oper} {a : Act} {w : World} {K : Act → World → Prop} {Q : Exit → Act → World → Prop} (ty : TypeId) (x y : Operand) (ho : o.op = .store ty x y)
  (g : Nat) (cells : Array Value) (hx : a.eval x = .pointer (some ⟨g, 0, none⟩)) (hy : a.eval y = .agg cells)
  (t : TypeId) (old : Array Value) (hg : w.heap[g]? = some (.cells old t (0, 0))) (hi : (P.info? ty).map (·.size) = some cells.size)
  (hold : old.size = cells.size) (h1 : cells.all (·.oneCell') = true)
  (h : ∀ W, W.heap[g]? = some (.cells cells t (0, 0)) → w.grownBy W (some g) → K (a.put o.dst undef) W) : o.wp P a w K Q :=
 wp_store_row ty x y ho g cells hx hy t old hg hi hold h1 (h _ (setRow_heap _ _ _ _ _ _ hg) ⟨rfl, rfl, rfl, by simp [World.setRow], fun b hb hne => setRow_other _ _ _ _ (fun e => hne (by rw [e]))⟩)
structure RQ (w W : World) (op dst : ByteArray) (A : Option Addr) (n c : Nat) (file : ByteArray) (A2 : Option Addr) (m c2 : Nat) : Prop where
 bel : Below w.heap.size w W
 r : W.heap[w.heap.size]? = some (.cells st0 37 (0, 0))
 s : W.heap[w.heap.size + 1]? = some (.cells (stC 0 op dst A n c file A2 m c2) 37 (0, 0))
section
variable {w W : World} {op dst : ByteArray} {A : Option Addr} {n c : Nat} {file : ByteArray} {A2 : Option Addr} {m c2 : Nat}
theorem RQ.lt (h : RQ w W op dst A n c file A2 m c2) : w.heap.size + 1 < W.heap.size := (Array.getElem?_eq_some_iff.1 h.s).1
theorem RQ.on (h : RQ w W op dst A n c file A2 m c2) {W2 : World} (hb : Below (w.heap.size + 2) W W2) : RQ w W2 op dst A n c file A2 m c2 :=
 ⟨h.bel.trans (hb.mono (by omega)), (hb.block _ (by omega)).trans h.r, (hb.block _ (by omega)).trans h.s⟩
theorem RQ.cells (h : RQ w W op dst A n c file A2 m c2) : (W.cell? ⟨w.heap.size + 1, 1, none⟩ = some (.string op) ∧ W.cell? ⟨w.heap.size + 1, 2, none⟩ = some (.string dst) ∧ W.cell? ⟨w.heap.size + 1, 3, none⟩ = some (.slice A n c) ∧ W.cell? ⟨w.heap.size + 1, 4, none⟩ = some (.string file) ∧ W.cell? ⟨w.heap.size + 1, 5, none⟩ = some (.slice A2 m c2)) ∧
  (∀ i, W.frozen? ⟨w.heap.size + 1, i, none⟩ = false) := by
 have e := h.s
 refine ⟨⟨Ard.row_cell e 1, Ard.row_cell e 2, Ard.row_cell e 3, Ard.row_cell e 4, Ard.row_cell e 5⟩, fun i => Ard.row_frozen e i⟩
theorem RQ.set (h : RQ w W op dst A n c file A2 m c2) (i : Nat) (v : Value) {op' dst' : ByteArray} {A' : Option Addr} {n' c' : Nat} {file' : ByteArray} {A2' : Option Addr} {m' c2' : Nat}
  (e : (stC 0 op dst A n c file A2 m c2).setIfInBounds i v = stC 0 op' dst' A' n' c' file' A2' m' c2') : RQ w (W.setCell ⟨w.heap.size + 1, i, none⟩ v) op' dst' A' n' c' file' A2' m' c2' :=
 ⟨h.bel.setCell (p := ⟨w.heap.size + 1, i, none⟩) (by show _ ≤ w.heap.size + 1; omega) _, (heap_setCell_other W ⟨w.heap.size + 1, i, none⟩ _ _ (by show w.heap.size ≠ w.heap.size + 1; omega)).trans h.r, by rw [← e]; exact heap_setCell_same W _ i _ _ v h.s⟩
theorem RQ.setDst (h : RQ w W op dst A n c file A2 m c2) (v : ByteArray) : RQ w (W.setCell ⟨w.heap.size + 1, 2, none⟩ (.string v)) op v A n c file A2 m c2 := h.set 2 _ rfl
theorem RQ.setSrcs (h : RQ w W op dst A n c file A2 m c2) (A' : Option Addr) (n' c' : Nat) : RQ w (W.setCell ⟨w.heap.size + 1, 3, none⟩ (.slice A' n' c')) op dst A' n' c' file A2 m c2 := h.set 3 _ rfl
theorem RQ.setFile (h : RQ w W op dst A n c file A2 m c2) (v : ByteArray) : RQ w (W.setCell ⟨w.heap.size + 1, 4, none⟩ (.string v)) op dst A n c v A2 m c2 := h.set 4 _ rfl
theorem RQ.setArgs (h : RQ w W op dst A n c file A2 m c2) (A' : Option Addr) (n' c' : Nat) : RQ w (W.setCell ⟨w.heap.size + 1, 5, none⟩ (.slice A' n' c')) op dst A n c file A' n' c' := h.set 5 _ rfl
theorem RQ.row (h : RQ w W op dst A n c file A2 m c2) : ∃ SC, Hid (W.heap[w.heap.size + 1]? = some (.cells SC 37 (0, 0))) ∧ Hid (SC.size = 6) ∧ Hid (SC.all (·.oneCell') = true) ∧ Hid (SC = stC 0 op dst A n c file A2 m c2) :=
 ⟨_, h.s, rfl, stC_one _ _ _ _ _ _ _ _ _ _, rfl⟩
theorem RQ.fin {W2 : World} (h : RQ w W op dst A n c file A2 m c2) (hg : W.grownBy W2 (some w.heap.size)) :
  Below w.heap.size w W2 ∧ W2.heap[w.heap.size + 1]? = some (.cells (stC 0 op dst A n c file A2 m c2) 37 (0, 0)) ∧ ∀ (T : TypeId) (v : Value) (k : Nat) (xs : List Value), W.ownsRow (w.heap.size + 2) T 1 v k xs → W2.ownsRow w.heap.size T 1 v k xs := by
 refine ⟨h.bel.grown hg (by have := h.lt; omega) (fun k e => by injection e with e; omega), (hg.block _ h.lt (by simp)).trans h.s, fun T v k xs hx => own_lower (hx.kept hg ?_) (by omega)⟩
 cases hv : v.ownBlock with
 | none => exact .inl rfl
 | some g =>
  right
  intro e
  injection e with e
  have := (hx.lt g hv).1
  omega
end
theorem RQ.start {w W : World} {op : ByteArray} (h1 : W.heap[w.heap.size + 1]? = some (.cells (stC 0 op ⟨#[]⟩ none 0 0 ⟨#[]⟩ none 0 0) 37 (0, 0)))
  (hg : ((w.alloc (.cells #[.int .i64 0, .string ⟨#[]⟩, .string ⟨#[]⟩, .slice none 0 0, .string ⟨#[]⟩, .slice none 0 0] 37)).alloc (.cells #[.int .i64 0, .string ⟨#[]⟩, .string ⟨#[]⟩, .slice none 0 0, .string ⟨#[]⟩, .slice none 0 0] 37)).grownBy W (some (w.heap.size + 1))) :
  RQ w W op ⟨#[]⟩ none 0 0 ⟨#[]⟩ none 0 0 := by
 refine ⟨?_, ?_, h1⟩
 ·exact ((((Below.refl _ w).alloc (Nat.le_refl _) _).alloc (by simp) _)).grown hg (by simp; omega) (fun k e => by injection e with e; omega)
 ·refine (hg.block _ (by simp; omega) (by simp)).trans ?_
  exact (Below.heap_alloc _ _ _ (by simp)).trans (heap_alloc_new w _)
def RStepP (w : World) (r : Option St) (e : Ending) (w' : World) : Prop := Below w.heap.size w w' ∧ match r with
 | none => ∃ op dst A n c file A2 m c2, e = .returned (.tuple #[.agg (stC 0 op dst A n c file A2 m c2), .bool false])
 | some s => ∃ A n c A2 m c2, e = .returned (.tuple #[.agg (stC 0 (ba s.op) (ba s.dst) A n c (ba s.file) A2 m c2), .bool true]) ∧ w'.ownsRow w.heap.size 9 1 (.slice A n c) n (s.srcs.map vS) ∧ w'.ownsRow w.heap.size 3 1 (.slice A2 m c2) m (s.args.map (.int .i64))
theorem rno {w V W2 : World} {op dst : ByteArray} {A : Option Addr} {n c : Nat} {file : ByteArray} {A2 : Option Addr} {m c2 : Nat} {SC : Array Value} (h : RQ w V op dst A n c file A2 m c2) (hSC : SC = stC 0 op dst A n c file A2 m c2) (hg : V.grownBy W2 (some w.heap.size)) :
  RStepP w none (.returned (.tuple #[.agg SC, .bool false])) W2 := ⟨(h.fin hg).1, op, dst, A, n, c, file, A2, m, c2, by rw [hSC]⟩
theorem rend {w V W2 : World} {zo zd : ByteArray} {A : Option Addr} {n c : Nat} {zf : ByteArray} {A2 : Option Addr} {m c2 : Nat} {SC : Array Value} {s : St} (fb : Bool) (h : RQ w V zo zd A n c zf A2 m c2) (hSC : SC = stC 0 zo zd A n c zf A2 m c2) (hg : V.grownBy W2 (some w.heap.size))
  (e1 : ba s.op = zo) (e2 : ba s.dst = zd) (e3 : ba s.file = zf) (h4 : V.ownsRow (w.heap.size + 2) 9 1 (.slice A n c) n (s.srcs.map vS)) (h5 : V.ownsRow (w.heap.size + 2) 3 1 (.slice A2 m c2) m (s.args.map (.int .i64))) :
  RStepP w (if fb then some s else none) (.returned (.tuple #[.agg SC, .bool fb])) W2 := by
 cases fb with
 | false => exact rno h hSC hg
 | true => exact ⟨(h.fin hg).1, A, n, c, A2, m, c2, by rw [hSC, e1, e2, e3], (h.fin hg).2.2 _ _ _ _ h4, (h.fin hg).2.2 _ _ _ _ h5⟩
theorem rnumbers_u {A : Option Addr} {n c : Nat} {l : List Tx} (w : World) (H : SS w A n l) : Calls Tryz.prog 57 #[.slice A n c] w fun e w' => Below w.heap.size w w' ∧ ∃ A c, e = .returned (.tuple #[.slice A ((numsM l).getD []).length c, .bool (numsM l).isSome]) ∧
  w'.ownsRow w.heap.size 3 1 (.slice A ((numsM l).getD []).length c) ((numsM l).getD []).length (((numsM l).getD []).map (.int .i64)) :=
 (rnumbers_any w H).mono fun e w' ⟨hb, h⟩ => by
  refine ⟨hb, ?_⟩
  cases hn : numsM l with
  | none => rw [hn] at h; exact ⟨none, 0, h, World.ownsRow_nil _ _ _ _⟩
  | some a => rw [hn] at h; obtain ⟨A, c, h1, h2⟩ := h; exact ⟨A, c, h1, h2⟩
end Go.Proofs.YtoofgblmpjndjaaGreatDoor.Scr
