/-
  Texts of this claim, joined by program (ArdG, ArdK, ArdP, ArdQ, ArdV). Walks: the reference's at.
-/
import Derived.Test.YtbmlopklhgladaaDoorZG2
import Derived.Laws.CopyOwn
import Derived.Deep.LoopGhost
import Derived.Deep.AppendLies
import Derived.Deep.RegionHeld3
import Derived.RangeFuncBox
import Derived.Laws.CopyRow
set_option linter.unusedVariables false
set_option linter.unusedSimpArgs false
namespace Go.Proofs.YtbmlopklhgladaaDoor.Ard
open Go.RowKit K

theorem place_in {W H a b k : Nat} (ha : a < W) (hb : b < H) (hk : k < 4) : 4 * (b * W + a) + k < 4 * W * H := by
  have h1 : b * W + a + 1 ≤ W * H := by
    have : (b + 1) * W ≤ H * W := Nat.mul_le_mul_right W hb
    rw [Nat.add_mul, Nat.one_mul, Nat.mul_comm H W] at this
    omega
  rw [Nat.mul_assoc]; omega
end Go.Proofs.YtbmlopklhgladaaDoor.Ard
set_option linter.unusedVariables false
set_option linter.unusedSimpArgs false
namespace Go.Proofs.YtbmlopklhgladaaDoor.Ard
open Go.RowKit K

theorem infoInt : (Tryd.prog.info? 3).map (fun i => (i.zero, i.size, i.bytes)) = some (some (.int .i64 0), 1, 8) := by kernel_rfl
/-- a new list of numbers is answered -/
def NewI (w : World) (l : List Int) (e : Ending) (w' : World) : Prop :=
  ∃ A c, e = .returned (.slice A l.length c) ∧ w'.ownsRow w.heap.size 3 1 (.slice A l.length c) l.length (l.map (.int .i64)) ∧ Below w.heap.size w w'
theorem own_base {w : World} {base base' e sz n : Nat} {v : Value} {xs : List Value} (h : w.ownsRow base e sz v n xs) (hb : base' ≤ base) : w.ownsRow base' e sz v n xs :=
  ⟨h.1, h.2.imp id fun ⟨g, cap, cur, hv, hg, r⟩ => ⟨g, cap, cur, hv, Nat.le_trans hb hg, r⟩⟩
def rowF (W H : Nat) (pix : List Int) (x y : Int) (n p k : Nat) (j i : Nat) : List Int := (List.range i).map fun (i : Nat) => atF W H pix (x - n + i) (y - p + j) k
def partF (W H : Nat) (pix : List Int) (x y : Int) (n p k : Nat) (j : Nat) : List Int := (List.range j).flatMap fun (j : Nat) => rowF W H pix x y n p k j (2 * n + 1)
theorem partF_succ (W H : Nat) (pix : List Int) (x y : Int) (n p k j : Nat) : partF W H pix x y n p k (j + 1) = partF W H pix x y n p k j ++ rowF W H pix x y n p k j (2 * n + 1) := by
  unfold partF; rw [List.range_succ, List.flatMap_append]; simp
theorem partF_len (W H : Nat) (pix : List Int) (x y : Int) (n p k j : Nat) : (partF W H pix x y n p k j).length = j * (2 * n + 1) := flat_len _ _ (fun j => by simp [rowF]) _
theorem rowF_succ (W H : Nat) (pix : List Int) (x y : Int) (n p k j i : Nat) : rowF W H pix x y n p k j (i + 1) = rowF W H pix x y n p k j i ++ [atF W H pix (x - n + i) (y - p + j) k] := by
  unfold rowF; rw [List.range_succ, List.map_append]; simp
theorem partF_all (W H : Nat) (pix : List Int) (x y : Int) (n p k : Nat) : partF W H pix x y n p k (2 * p + 1) = winF W H pix x y n p k := rfl
theorem sl_new (w : World) (cs : List Value) (T : TypeId) : Sl (w.alloc (.cells cs.toArray T)) (some ⟨w.heap.size, 0, none⟩) cs := fun j u hu => ⟨w.heap.size, 0, rfl, by rw [World.cell?_alloc_new]; simpa using hu⟩
theorem own_on {w w' : World} {base e sz n : Nat} {v : Value} {xs : List Value} (h : w.ownsRow base e sz v n xs) (hb : Below w.heap.size w w') : w'.ownsRow base e sz v n xs :=
  ⟨h.1, h.2.imp id fun ⟨g, cap, cur, hv, hg, hc, r⟩ => ⟨g, cap, cur, hv, hg, (hb.block g (Array.getElem?_eq_some_iff.1 hc).1).trans hc, r⟩⟩
/-- the window's loops: what is gathered -/
structure Wn (w wr : World) (W H : Int) (P : Option Addr) (pn pc : Nat) (A : Option Addr) (c : Nat) (l : List Int) : Prop where
  bel : Below (w.heap.size + 1) (w.alloc (.cells #[.int .i64 W, .int .i64 H, .slice P pn pc] 26)) wr
  own : wr.ownsRow (w.heap.size + 1) 3 1 (.slice A l.length c) l.length (l.map (.int .i64))
theorem Wn.cells {w wr : World} {W H : Int} {P : Option Addr} {pn pc : Nat} {A : Option Addr} {c : Nat} {l : List Int} (h : Wn w wr W H P pn pc A c l) : wr.cell? ⟨w.heap.size, 0, none⟩ = some (.int .i64 W) ∧ wr.cell? ⟨w.heap.size, 1, none⟩ = some (.int .i64 H) ∧ wr.cell? ⟨w.heap.size, 2, none⟩ = some (.slice P pn pc) := by
  have hb := (h.bel.block w.heap.size (by omega)).trans (heap_alloc_new w _)
  simp [World.cell?, hb]
theorem Wn.on {w wr w2 : World} {W H : Int} {P : Option Addr} {pn pc : Nat} {A : Option Addr} {c : Nat} {l : List Int} (h : Wn w wr W H P pn pc A c l) (hb : Below wr.heap.size wr w2) : Wn w w2 W H P pn pc A c l :=
  ⟨h.bel.trans (hb.mono (by have := h.bel.size; rw [World.size_alloc] at this; omega)), own_on h.own hb⟩
end Go.Proofs.YtbmlopklhgladaaDoor.Ard
set_option linter.unusedVariables false
set_option linter.unusedSimpArgs false
namespace Go.Proofs.YtbmlopklhgladaaDoor.Ard
open Go.RowKit K

/-- pairs as cells -/
def pairCells (l : List (Int × Int)) : List Value := l.flatMap fun p => [.int .i64 p.1, .int .i64 p.2]
/-- the operators: names, bounds, functions -/
def nameF : Nat → ByteArray
  | 0 => ⟨#[99, 111, 110, 118, 111, 108, 118, 101]⟩
  | 1 => ⟨#[98, 108, 117, 114]⟩
  | 2 => ⟨#[115, 104, 97, 114, 112, 101, 110]⟩
  | 3 => ⟨#[101, 100, 103, 101]⟩
  | 4 => ⟨#[101, 109, 98, 111, 115, 115]⟩
  | 5 => ⟨#[108, 101, 97, 115, 116]⟩
  | 6 => ⟨#[109, 111, 115, 116]⟩
  | 7 => ⟨#[109, 101, 100, 105, 97, 110]⟩
  | _ => ⟨#[108, 105, 110, 101, 115]⟩
def bndF : Nat → List (Int × Int)
  | 0 => List.replicate 9 (-1024, 1024) ++ [(1, 65535), (-65535, 65535)]
  | 3 => []
  | 4 => []
  | 7 => [(1, 3)]
  | _ => [(1, 8)]
def alphaF (i : Nat) : Bool := i == 5 || i == 6 || i == 7
end Go.Proofs.YtbmlopklhgladaaDoor.Ard
set_option linter.unusedVariables false
set_option linter.unusedSimpArgs false
namespace Go.Proofs.YtbmlopklhgladaaDoor.Ard
open Go.RowKit K

/-- arguments within their bounds -/
def fitsB (b : List (Int × Int)) (a : List Int) : Bool := decide (a.length = b.length) && (List.range b.length).all fun i => decide ((b.getD i (0, 0)).1 ≤ a.getD i 0) && decide (a.getD i 0 ≤ (b.getD i (0, 0)).2)
/-- which operator it is -/
def idxF (op : ByteArray) : Option Nat := (List.range 9).find? fun i => decide (nameF i = op)
/-- what Check says -/
def checkE (op : ByteArray) (a : List Int) : Int :=
  match idxF op with
  | none => 8
  | some i => if fitsB (bndF i) a then 0 else 190
def zeroOp : Array Value := #[.string ⟨#[]⟩, .slice none 0 0, .nilFunc, .nilFunc, .bool false]
theorem results_row_tmp {P : Program} {fn : Func} {p u : Tmp} {ty : TypeId} (h : fn.results = #[.cell p ty, .tmp u]) (tmps : Array Value) (w : World) (g : Nat) (t : TypeId) (cs : Array Value) (fr : Nat × Nat) (d : TypeDesc)
    (hp : tmps.getD p undef = .pointer (some ⟨g, 0, none⟩)) (hg : w.heap[g]? = some (.cells cs t fr))
    (hu : P.underlying ty = some d) (hd : (match d with | .struct _ | .array _ _ => true | _ => false) = true) (hi : (P.info? ty).map (·.size) = some cs.size) :
    (results fn tmps).run P w = .ok (.tuple #[.agg cs, tmps.getD u undef]) w := by
  have hp' : tmps[p]?.getD undef = .pointer (some ⟨g, 0, none⟩) := by simpa using hp
  simp [results, h, hp', asAddr, run_loadVar_row w g t ty cs fr d hg hu hd hi]
theorem wpList_store_rowW {P : Program} {ops : Array Oper} {rest : List Oper} {o : Oper} {a : Act} {w : World} {Q : Exit → Act → World → Prop} (hgd : o.guard = none) (ty : TypeId) (x y : Operand) (ho : o.op = .store ty x y)
    (g : Nat) (cells : Array Value) (hx : a.eval x = .pointer (some ⟨g, 0, none⟩)) (hy : a.eval y = .agg cells)
    (t : TypeId) (old : Array Value) (hg : w.heap[g]? = some (.cells old t (0, 0))) (hi : (P.info? ty).map (·.size) = some cells.size)
    (hold : old.size = cells.size) (h1 : cells.all (·.oneCell') = true) (B : Nat) (w0 : World) (hb : Below B w0 w) (hBg : B ≤ g)
    (h : ∀ W, Hid (W.heap[g]? = some (.cells cells t (0, 0))) → Hid (Below B w0 W) → Hid (W.heap.size = w.heap.size) → wpList P ops Q rest (a.put o.dst undef) W) : wpList P ops Q (o :: rest) a w :=
  wpList_store_row hgd ty x y ho g cells hx hy t old hg hi hold h1 (h _ (setRow_heap _ _ _ _ _ _ hg) (below_setRow hb hBg _) (by show _ = _; simp [World.setRow]))
/-- the cells of a row that a block holds -/
theorem row_cell {w : World} {g : Nat} {cs : Array Value} {t : TypeId} (h : w.heap[g]? = some (.cells cs t (0, 0))) (j : Nat) : w.cell? ⟨g, j, none⟩ = cs[j]? := by simp [World.cell?, h]
theorem row_frozen {w : World} {g : Nat} {cs : Array Value} {t : TypeId} (h : w.heap[g]? = some (.cells cs t (0, 0))) (j : Nat) : w.frozen? ⟨g, j, none⟩ = false := by simp [World.frozen?, h]
theorem bytes_beq {a b : ByteArray} : (a.toList == b.toList) = decide (a = b) := by
  by_cases h : a = b
  · simp [h]
  · have : a.toList ≠ b.toList := fun e => h (by
      rw [ByteArray.toList_eq, ByteArray.toList_eq] at e
      cases a; cases b
      simp at e
      rw [e])
    simp [h, this]
theorem pairCells_at (l : List (Int × Int)) : ∀ (j : Nat) (h : j < l.length), (pairCells l)[j * 2]? = some (.int .i64 (l.getD j (0, 0)).1) ∧ (pairCells l)[j * 2 + 1]? = some (.int .i64 (l.getD j (0, 0)).2) := by
  induction l with
  | nil => intro j h; simp at h
  | cons p l ih =>
    intro j h
    cases j with
    | zero => exact ⟨rfl, rfl⟩
    | succ j =>
      have := ih j (by simpa using h)
      have e1 : (j + 1) * 2 = j * 2 + 1 + 1 := by omega
      rw [e1]
      simpa [pairCells, List.getD] using this
theorem idxF_at {op : ByteArray} {k : Nat} (hk : k < 9) (h : ∀ i, i < k → nameF i ≠ op) (he : nameF k = op) : idxF op = some k := by
  unfold idxF
  rw [List.find?_eq_some_iff_append]
  refine ⟨by simp [he], List.range k, (List.range (8 - k)).map (· + (k + 1)), ?_, ?_⟩
  · have h1 : (9 : Nat) = k + (1 + (8 - k)) := by omega
    rw [h1, List.range_add, List.range_add]
    simp [Nat.add_assoc, Nat.add_comm, Nat.add_left_comm]
  · intro i hi
    simp at hi
    simp [h i hi]
theorem bndF_len (k : Nat) : (bndF k).length ≤ 11 := by
  unfold bndF
  split <;> simp
theorem zeroAll : zeroOp.all (·.oneCell') = true := by simp [zeroOp, Value.oneCell']
end Go.Proofs.YtbmlopklhgladaaDoor.Ard
set_option linter.unusedVariables false
set_option linter.unusedSimpArgs false
namespace Go.Proofs.YtbmlopklhgladaaDoor.Ard
open Go.RowKit K

/-- an append of one number that has just been laid, in a region that draws its order -/
theorem step_push {P : Program} {ops : Array Oper} {o : Oper} {a : Act} {w : World} {K : Act → World → Prop} {Q : Exit → Act → World → Prop} {E : Prop} (hgd : o.guard = none) (s x : Operand) (t : TypeId)
    (ho : o.op = .call { callee := .builtin .append, args := #[s, x], argTypes := #[t, t] }) (base e size bytes : Nat) (z : Value) (ht : P.underlying t = some (.slice e))
    (hinfo : (P.info? e).map (fun i => (i.zero, i.size, i.bytes)) = some (some z, size, bytes)) (hzs : z.cells.size = size) (hsz : 0 < size)
    (v : Value) (n : Nat) (xs : List Value) (hs : a.eval s = v) (hown : w.ownsRow base e size v n xs) (B c : Nat) (cs : List Value) (T : TypeId)
    (hx : a.eval x = .slice (some ⟨B, 0, none⟩) 1 c) (hl : cs.length = size) (hb : w.heap[B]? = some (.cells cs.toArray T (0, 0))) (h1 : ∀ u ∈ cs, u.oneCell' = true)
    (h63 : n + 1 ≤ maxLen) (hbytes : (n + 1) * bytes ≤ 140737488355328) (hbase : base ≤ w.heap.size) (H : Nat) (hH : w.heap.size = H)
    (h : ∀ g cap w', w'.ownsRow base e size (.slice (some ⟨g, 0, none⟩) (n + 1) cap) (n + 1) (xs ++ cs) → w.grownBy w' v.ownBlock → (v.ownBlock = some g ∨ g = H) → g < w'.heap.size → K (a.put o.dst (.slice (some ⟨g, 0, none⟩) (n + 1) cap)) w') :
    if Region.wanted o (yielded ops a.tmps) = true then Oper.wp P o a w K Q else E := by
  obtain ⟨i, hi, hz, h2, h3⟩ := info_parts hinfo
  exact step_append_lies w hgd s x t ho base e i z size bytes ht hi hz h2 h3 hzs hsz v n xs hs hown ⟨B, 0, none⟩ 1 c cs hx (by rw [hl, Nat.one_mul]) (by simpa using World.news_of_block hb) h1 (by omega) h63 hbytes hbase H hH h
theorem step_max2 {P : Program} {ops : Array Oper} {o : Oper} {a : Act} {w : World} {K : Act → World → Prop} {Q : Exit → Act → World → Prop} {E : Prop} (hgd : o.guard = none) (x y : Operand) (t : TypeId)
    (ho : o.op = .call { callee := .builtin .max, args := #[x, y], argTypes := #[t, t] }) (m n r : Int) (hx : a.eval x = .int .i64 m) (hy : a.eval y = .int .i64 n) (hr : (if m < n then n else m) = r) (h : K (a.put o.dst (.int .i64 r)) w) :
    if Region.wanted o (yielded ops a.tmps) = true then Oper.wp P o a w K Q else E := by
  have hw : Region.wanted o (yielded ops a.tmps) = true := by simp [Region.wanted, hgd]
  rw [if_pos hw]
  unfold Oper.wp
  simp [execOp, ho, resolve, invoke, builtin, hx, hy, run_max_int2, Result.andThen, hr]
  exact h
theorem step_min2 {P : Program} {ops : Array Oper} {o : Oper} {a : Act} {w : World} {K : Act → World → Prop} {Q : Exit → Act → World → Prop} {E : Prop} (hgd : o.guard = none) (x y : Operand) (t : TypeId)
    (ho : o.op = .call { callee := .builtin .min, args := #[x, y], argTypes := #[t, t] }) (m n r : Int) (hx : a.eval x = .int .i64 m) (hy : a.eval y = .int .i64 n) (hr : (if n < m then n else m) = r) (h : K (a.put o.dst (.int .i64 r)) w) :
    if Region.wanted o (yielded ops a.tmps) = true then Oper.wp P o a w K Q else E := by
  have hw : Region.wanted o (yielded ops a.tmps) = true := by simp [Region.wanted, hgd]
  rw [if_pos hw]
  unfold Oper.wp
  simp [execOp, ho, resolve, invoke, builtin, hx, hy, run_min_int2, Result.andThen, hr]
  exact h
theorem own_ne {w : World} {base e sz n b : Nat} {v : Value} {xs : List Value} {cs : Array Value} {t : TypeId} (h : w.ownsRow base e sz v n xs) (hb : w.heap[b]? = some (.cells cs t (0, 0))) (hne : t ≠ e) : some b ≠ v.ownBlock := by
  intro he
  rcases h.2 with ⟨rfl, -⟩ | ⟨g, cap, cur, rfl, -, hg, -⟩
  · simp [Value.ownBlock] at he
  · simp [Value.ownBlock] at he
    subst he
    rw [hb] at hg
    injection hg with hg
    injection hg with h1 h2 h3
    exact hne h2
theorem heap_alloc_old (w : World) (o : Obj) {b : Nat} {x : Obj} (h : w.heap[b]? = some x) : (w.alloc o).heap[b]? = some x := (Below.heap_alloc _ _ _ (Array.getElem?_eq_some_iff.1 h).1).trans h
theorem set_row0 {w : World} {b : Nat} {u v x : Value} {t : TypeId} (h : w.heap[b]? = some (.cells #[u, x] t (0, 0))) : (w.setCell ⟨b, 0, none⟩ v).heap[b]? = some (.cells #[v, x] t (0, 0)) := by
  rw [setCell_eq_setRow w b 0 _ t (0, 0) v h, setRow_heap _ _ _ _ _ _ h]; rfl
theorem set_row1 {w : World} {b : Nat} {u v x : Value} {t : TypeId} (h : w.heap[b]? = some (.cells #[x, u] t (0, 0))) : (w.setCell ⟨b, 1, none⟩ v).heap[b]? = some (.cells #[x, v] t (0, 0)) := by
  rw [setCell_eq_setRow w b 1 _ t (0, 0) v h, setRow_heap _ _ _ _ _ _ h]; rfl
theorem undrew {w wr : World} {row : Option Nat} (h : w.drew.grownBy wr row) : w.grownBy wr row := ⟨h.os, h.tape, h.output, h.size, h.block⟩
theorem cellP {w wx : World} {o : Obj} {a : Addr} {v : Value} {row : Option Nat} (h : w.cell? a = some v) (hg : (w.alloc o).grownBy wx row) (hne : some a.block ≠ row) : wx.cell? a = some v := by
  have hlt := World.block_lt_of_cell? w a h
  exact hg.cell (by rw [World.cell?_alloc_lt _ _ _ hlt]; exact h) hne
theorem max_ite (v : Int) : (if v < 0 then (0 : Int) else v) = max v 0 := by omega
theorem min_ite (m t : Int) : (if t < m then t else m) = min m t := by omega
theorem clamp_ite (v : Int) {H : Nat} (hH : 1 ≤ H) : min (max v 0) ((H : Int) - 1) = (clampN v (H - 1) : Int) := by unfold clampN; omega
theorem idx_facts {rv cx k q : Nat} (h1 : rv ≤ 16777216) (h2 : cx ≤ 4096) (h3 : k < 4) (hq : 4 * (rv + cx) + k = q) :
    IntKind.i64.wrap ((rv : Int) + (cx : Int)) = (rv : Int) + (cx : Int) ∧ IntKind.i64.wrap (4 * ((rv : Int) + (cx : Int))) = 4 * ((rv : Int) + (cx : Int)) ∧ IntKind.i64.wrap (4 * ((rv : Int) + (cx : Int)) + (k : Int)) = (q : Int) := by
  refine ⟨IntWalk.i64_in _ (by omega), IntWalk.i64_in _ (by omega), ?_⟩
  rw [IntWalk.i64_in _ (by omega), ← hq]; push_cast; rfl
theorem gath_len (W H : Nat) (pix : List Int) (x y : Int) {rx ry : Nat} (k : Nat) {j i : Nat} (hrx : rx ≤ 8) (hry : ry ≤ 8) (hj : j ≤ 2 * ry + 1) (hi : i ≤ 2 * rx + 1) : (partF W H pix x y rx ry k j ++ rowF W H pix x y rx ry k j i).length ≤ 400 := by
  rw [List.length_append, partF_len, show (rowF W H pix x y rx ry k j i).length = i by simp [rowF]]
  have : j * (2 * rx + 1) ≤ 17 * 17 := Nat.mul_le_mul (by omega) (by omega)
  omega
theorem atF_in_place {W H x y : Nat} (pix : List Int) (k : Nat) (hx : x < W) (hy : y < H) : atF W H pix x y k = pix.getD (4 * (y * W + x) + k) 0 := by
  unfold atF
  rw [show clampN (x : Int) (W - 1) = x by unfold clampN; omega, show clampN (y : Int) (H - 1) = y by unfold clampN; omega]
theorem row_cut {w : World} {base e n c : Nat} {A : Option Addr} {xs : List Value} (h : w.ownsRow base e 1 (.slice A n c) n xs) : w.ownsRow base e 1 (.slice A 0 c) 0 [] := by
  rcases h.2 with ⟨hv, rfl⟩ | ⟨g, cap, cur, hv, h1, h2, h3, h4, h5, h6⟩
  · injection hv with e1 e2 e3
    subst e1 e3
    exact World.ownsRow_nil _ _ _ _
  · injection hv with e1 e2 e3
    subst e1 e3
    exact ⟨rfl, .inr ⟨g, c, cur, rfl, h1, h2, Nat.zero_le _, h4, h5, by simp⟩⟩
end Go.Proofs.YtbmlopklhgladaaDoor.Ard
