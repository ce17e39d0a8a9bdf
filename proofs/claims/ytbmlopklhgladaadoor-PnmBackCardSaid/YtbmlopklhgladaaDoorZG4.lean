/-
  Texts of this claim, joined by program (ArdW, ArdX, PnmM, PnmA). Walks: raster.Crop.
-/
import Derived.Deep.Cut
import Derived.Test.YtbmlopklhgladaaDoorZG2
import Derived.Test.YtbmlopklhgladaaDoorZG3
import Derived.Test.YtbmlopklhgladaaDoorZG1
import Derived.Test.YtbmlopklhgladaaDoorChecked
set_option linter.unusedVariables false
set_option linter.unusedSimpArgs false
namespace Go.Proofs.YtbmlopklhgladaaDoor.Ard
open Go.RowKit K

theorem infoU16 : (Tryd.prog.info? 43).map (fun i => (i.zero, i.size, i.bytes)) = some (some (.int .u16 0), 1, 2) := by kernel_rfl
theorem imgInfo : (Tryd.prog.info? 26).map (·.size) = some 3 := by kernel_rfl
def zimg : Array Value := #[.int .i64 0, .int .i64 0, .slice none 0 0]
theorem zimgAll : zimg.all (·.oneCell') = true := by simp [zimg, Value.oneCell']
/-- the first k rows of a part -/
def cropK (W : Nat) (pix : List Int) (X Y RW : Nat) (k : Nat) : List Int := (List.range k).flatMap fun j => (pix.drop (4 * ((Y + j) * W + X))).take (4 * RW)
theorem cropK_succ (W : Nat) (pix : List Int) (X Y RW k : Nat) : cropK W pix X Y RW (k + 1) = cropK W pix X Y RW k ++ (pix.drop (4 * ((Y + k) * W + X))).take (4 * RW) := by
  unfold cropK; rw [List.range_succ, List.flatMap_append]; simp
/-- an image that is answered: new memory -/
def ImgP (w : World) (W H : Int) (l : List Int) (code : Int) (e : Ending) (w' : World) : Prop :=
  Below w.heap.size w w' ∧ ∃ A c, e = .returned (.tuple #[.agg #[.int .i64 W, .int .i64 H, .slice A l.length c], .int .i64 code]) ∧ w'.ownsRow w.heap.size 43 1 (.slice A l.length c) l.length (l.map (.int .u16))
theorem ImgP.zero {w w' : World} {code : Int} (h : Below w.heap.size w w') : ImgP w 0 0 [] code (.returned (.tuple #[.agg zimg, .int .i64 code])) w' := ⟨h, Option.none, 0, rfl, World.ownsRow_nil _ _ _ _⟩
theorem step_append_sl {P : Program} {ops : Array Oper} {o : Oper} {a : Act} {w : World} {K : Act → World → Prop} {Q : Exit → Act → World → Prop} {E : Prop} (hgd : o.guard = none) (s x : Operand) (t : TypeId)
    (ho : o.op = .call { callee := .builtin .append, args := #[s, x], argTypes := #[t, t] }) (base e size bytes : Nat) (z : Value) (ht : P.underlying t = some (.slice e))
    (hinfo : (P.info? e).map (fun i => (i.zero, i.size, i.bytes)) = some (some z, size, bytes)) (hzs : z.cells.size = size) (hsz : 0 < size)
    (v : Value) (n : Nat) (xs : List Value) (hs : a.eval s = v) (hown : w.ownsRow base e size v n xs)
    (A : Option Addr) (m c : Nat) (news : List Value) (hx : a.eval x = .slice A m c) (hl : news.length = m * size) (hr : Sl w A news) (h1 : ∀ u ∈ news, u.oneCell' = true)
    (h63 : n + m ≤ maxLen) (hbytes : (n + m) * bytes ≤ 140737488355328) (hbase : base ≤ w.heap.size)
    (h : ∀ v' w', w'.ownsRow base e size v' (n + m) (xs ++ news) → w.grownBy w' v.ownBlock → (v'.ownBlock = v.ownBlock ∨ v'.ownBlock = some w.heap.size) → K (a.put o.dst v') w') :
    if Region.wanted o (yielded ops a.tmps) = true then Oper.wp P o a w K Q else E := by
  have hw : Region.wanted o (yielded ops a.tmps) = true := by simp [Region.wanted, hgd]
  rw [if_pos hw]
  obtain ⟨i, hi, hz, hz1, hz2⟩ := info_parts hinfo
  obtain ⟨v', w', hrun, g1, g2, g3⟩ : ∃ v' w', (Builtin.append_ #[t, t] o.type #[v, .slice A m c]).run P w = .ok v' w' ∧ w'.ownsRow base e size v' (n + m) (xs ++ news) ∧ w.grownBy w' v.ownBlock ∧ (v'.ownBlock = v.ownBlock ∨ v'.ownBlock = some w.heap.size) := by
    rcases Nat.eq_zero_or_pos m with hm | hm
    · subst hm
      have hn0 : news = [] := List.eq_nil_of_length_eq_zero (by simpa using hl)
      subst hn0
      refine ⟨v, w, ?_, by simpa using hown, World.grownBy.refl w _, .inl rfl⟩
      rcases hown.2 with ⟨rfl, rfl⟩ | ⟨g, cap, cur, rfl, _, _, hnc, _⟩
      · cases A <;> simp [Builtin.append_, run_underlying ht, sizeOf, typeInfo, hi, Builtin.lenOf, Builtin.firstCells, loadCells, loadCellsFrom]
      · cases A <;> simp [Builtin.append_, run_underlying ht, sizeOf, typeInfo, hi, Builtin.lenOf, Builtin.firstCells, hnc, storeCells, loadCells, loadCellsFrom]
    · have h0 : 0 < news.length := by rw [hl]; exact Nat.mul_pos hm hsz
      obtain ⟨b, off, rfl, _⟩ := hr 0 news[0] (List.getElem?_eq_getElem h0)
      obtain ⟨v', w', hr1, h2, h3, _, h5⟩ := run_append_own_at (P := P) w base t o.type e i z size bytes ht hi hz hz1 hz2 hzs hsz v n xs hown ⟨b, off, none⟩ m c news hl (fun j u hu => by
        obtain ⟨b', off', e', hc⟩ := hr j u hu
        injection e' with e'
        injection e' with e1 e2
        subst e1 e2
        rw [Addr.add_lit]
        exact hc) h1 h63 hbytes hbase
      exact ⟨v', w', hr1, h2, h3, h5⟩
  unfold Oper.wp execOp
  simp only [ho, resolve, invoke, builtin, Sem.run_bind, Sem.run_pure, Result.andThen_ok, List.map_toArray, List.map_cons, List.map_nil, hs, hx, hrun]
  exact h _ _ g1 g2 g3
theorem three_allocs (w : World) (a b c : Obj) : ∃ W0, ((w.alloc a).alloc b).alloc c = W0 ∧ W0.heap[w.heap.size]? = some a ∧ W0.heap[w.heap.size + 1]? = some b ∧ W0.heap[w.heap.size + 2]? = some c ∧ W0.heap.size = w.heap.size + 3 ∧ Below w.heap.size w W0 := by
  refine ⟨_, rfl, ?_, ?_, ?_, by simp, (((Below.refl _ w).alloc (Nat.le_refl _) _).alloc (by simp) _).alloc (by simp; omega) _⟩
  · exact heap_alloc_old _ _ (heap_alloc_old _ _ (heap_alloc_new w a))
  · have := heap_alloc_new (w.alloc a) b
    rw [World.size_alloc] at this
    exact heap_alloc_old _ _ this
  · have := heap_alloc_new ((w.alloc a).alloc b) c
    rw [World.size_alloc, World.size_alloc] at this
    exact this
end Go.Proofs.YtbmlopklhgladaaDoor.Ard
set_option linter.unusedVariables false
set_option linter.unusedSimpArgs false
namespace Go.Proofs.YtbmlopklhgladaaDoor.Ard
open Go.RowKit K

/-- an image that is being built: its block, and what its slice owns -/
structure Cr (base : Nat) (wB wr : World) (bo : Nat) (a b : Value) (A : Option Addr) (c : Nat) (l : List Int) : Prop where
  bel : Below base wB wr
  win : wr.heap[bo]? = some (.cells #[a, b, .slice A l.length c] 26 (0, 0))
  row : wr.ownsRow base 43 1 (.slice A l.length c) l.length (l.map (.int .u16))
theorem set_row2 {w : World} {b : Nat} {u v x y : Value} {t : TypeId} (h : w.heap[b]? = some (.cells #[x, y, u] t (0, 0))) : (w.setCell ⟨b, 2, none⟩ v).heap[b]? = some (.cells #[x, y, v] t (0, 0)) := by
  rw [setCell_eq_setRow w b 2 _ t (0, 0) v h, setRow_heap _ _ _ _ _ _ h]; rfl
theorem grown_set1 (w : World) (b i : Nat) (v : Value) : w.grownBy (w.setCell ⟨b, i, none⟩ v) (some b) :=
  ⟨rfl, rfl, rfl, by simp [World.setCell], fun k _ hk => Below.heap_setCell _ _ _ k (fun e => hk (by rw [e]))⟩
theorem grown_row (w : World) (g : Nat) (cs : Array Value) : w.grownBy (w.setRow g cs) (some g) :=
  ⟨rfl, rfl, rfl, by simp [World.setRow], fun k _ hk => setRow_other w g k cs (fun e => hk (by rw [e]))⟩
theorem Cr.app {base : Nat} {wB wr w5 : World} {bo : Nat} {a b : Value} {A A5 : Option Addr} {c c5 : Nat} {l l2 : List Int} (h : Cr base wB wr bo a b A c l) (hbo : base ≤ bo) (hB : base ≤ wB.heap.size)
    (hown : w5.ownsRow base 43 1 (.slice A5 (l.length + l2.length) c5) (l.length + l2.length) (l.map (.int .u16) ++ l2.map (.int .u16))) (hg : wr.drew.grownBy w5 (Value.slice A l.length c).ownBlock) :
    w5.heap[bo]? = some (.cells #[a, b, .slice A l.length c] 26 (0, 0)) ∧ Below base wB w5 ∧ Cr base wB (w5.setCell ⟨bo, 2, none⟩ (.slice A5 (l.length + l2.length) c5)) bo a b A5 c5 (l ++ l2) := by
  have hsz := h.bel.size
  have h1 : w5.heap[bo]? = some (.cells #[a, b, .slice A l.length c] 26 (0, 0)) := (hg.block bo (Array.getElem?_eq_some_iff.1 h.win).1 (own_ne h.row h.win (by decide))).trans h.win
  have hb5 : Below base wB w5 := h.bel.drew.grown hg (by show base ≤ wr.heap.size; omega) (fun b e => (h.row.lt b e).1)
  refine ⟨h1, hb5, hb5.setCell (p := ⟨bo, 2, none⟩) hbo _, ?_, ?_⟩
  · rw [List.length_append]; exact set_row2 h1
  · rw [List.length_append, List.map_append]
    exact hown.kept (grown_set1 w5 bo 2 _) (.inr (own_ne hown h1 (by decide)).symm)
theorem cropK_len {W : Nat} {pix : List Int} {X Y RW H k : Nat} (hp : pix.length = 4 * W * H) (hx : X + RW ≤ W) (hk : Y + k ≤ H) : (cropK W pix X Y RW k).length = k * (4 * RW) := by
  induction k with
  | zero => simp [cropK]
  | succ k ih =>
    rw [cropK_succ, List.length_append, ih (by omega), List.length_take, List.length_drop, hp]
    have h1 : (Y + k + 1) * W ≤ H * W := Nat.mul_le_mul_right W (by omega)
    rw [Nat.add_mul, Nat.one_mul] at h1
    have h2 : 4 * W * H = 4 * (H * W) := by rw [Nat.mul_assoc, Nat.mul_comm W H]
    rw [h2, show (k + 1) * (4 * RW) = k * (4 * RW) + 4 * RW by rw [Nat.add_mul, Nat.one_mul]]
    generalize (Y + k) * W = a at *
    generalize H * W = b at *
    omega
theorem sl_part {w : World} {pb po pn : Nat} {pix : List Int} (h : SI w .u16 (some ⟨pb, po, none⟩) pn pix) (at_ m : Nat) : Sl w (some ⟨pb, po + at_, none⟩) (((pix.drop at_).take m).map (.int .u16)) := by
  intro j u hu
  rw [List.getElem?_map, Option.map_eq_some_iff] at hu
  obtain ⟨x, hx, rfl⟩ := hu
  rw [List.getElem?_take] at hx
  split at hx
  · rw [List.getElem?_drop] at hx
    obtain ⟨b, off, e, hc⟩ := h.sl (at_ + j) (.int .u16 x) (by rw [List.getElem?_map, hx]; rfl)
    injection e with e
    injection e with e1 e2
    subst e1 e2
    exact ⟨pb, po + at_, rfl, by rw [Nat.add_assoc]; exact hc⟩
  · cases hx
theorem crop_place {W H X Y RW k : Nat} (hx : X + RW ≤ W) (hk : Y + k + 1 ≤ H) : 4 * ((Y + k) * W + X) + 4 * RW ≤ 4 * W * H := by
  have h1 : (Y + k + 1) * W ≤ H * W := Nat.mul_le_mul_right W hk
  rw [Nat.add_mul, Nat.one_mul] at h1
  have h2 : 4 * W * H = 4 * (H * W) := by rw [Nat.mul_assoc, Nat.mul_comm W H]
  rw [h2]
  generalize (Y + k) * W = a at *
  generalize H * W = b at *
  omega
theorem crop_len_in {W : Nat} {pix : List Int} {X Y RW RH H k : Nat} (hp : pix.length = 4 * W * H) (hx : X + RW ≤ W) (hy : Y + RH ≤ H) (hk : k ≤ RH) (hW : W ≤ 4096) (hH : H ≤ 4096) : (cropK W pix X Y RW k).length ≤ 67108864 := by
  rw [cropK_len (H := H) hp hx (by omega)]
  exact Nat.le_trans (Nat.mul_le_mul (show k ≤ 4096 by omega) (show 4 * RW ≤ 16384 by omega)) (by omega)
theorem part_len {pix : List Int} {q m pn : Nat} (hl : pix.length = pn) (h : q + m ≤ pn) : ((pix.drop q).take m).length = m := by
  rw [List.length_take, List.length_drop, hl]; omega
end Go.Proofs.YtbmlopklhgladaaDoor.Ard
set_option linter.unusedVariables false
set_option linter.unusedSimpArgs false
namespace Go.Proofs.YtbmlopklhgladaaDoor.Pnm
open Go.RowKit K

def spaceB (c : Int) : Bool := c == 32 || (decide (9 ≤ c) && decide (c ≤ 13))
def digB (c : Int) : Bool := decide (48 ≤ c) && decide (c ≤ 57)
/-- the first end of a line from a place on -/
def nlM (l : List Int) (a : Nat) : Option Nat :=
  if h : a < l.length then
    if l.getD a 0 = 10 ∨ l.getD a 0 = 13 then some a else nlM l (a + 1)
  else none
termination_by l.length - a
theorem nlM_ge {l : List Int} : ∀ (d a j : Nat), l.length - a = d → nlM l a = some j → a ≤ j ∧ j < l.length := by
  intro d
  induction d with
  | zero =>
    intro a j hd h
    rw [nlM, dif_neg (by omega)] at h; cases h
  | succ d ih =>
    intro a j hd h
    rw [nlM, dif_pos (by omega)] at h
    split at h
    · injection h with h; omega
    · have := ih (a + 1) j (by omega) h; omega
theorem nlM_at {l : List Int} {a j : Nat} (h : nlM l a = some j) : l.getD j 0 = 10 ∨ l.getD j 0 = 13 := by
  have : ∀ (d a j : Nat), l.length - a = d → nlM l a = some j → l.getD j 0 = 10 ∨ l.getD j 0 = 13 := by
    intro d
    induction d with
    | zero => intro a j hd h; rw [nlM, dif_neg (by omega)] at h; cases h
    | succ d ih =>
      intro a j hd h
      rw [nlM, dif_pos (by omega)] at h
      split at h
      · rename_i hc; injection h with h; rw [← h]; exact hc
      · exact ih (a + 1) j (by omega) h
  exact this _ a j rfl h
theorem nlM_end {l : List Int} {a : Nat} (h : l.length ≤ a) : nlM l a = none := by rw [nlM, dif_neg (by omega)]
theorem nlM_hit {l : List Int} {a : Nat} (h : a < l.length) (hc : l.getD a 0 = 10 ∨ l.getD a 0 = 13) : nlM l a = some a := by rw [nlM, dif_pos h, if_pos hc]
theorem nlM_step {l : List Int} {a : Nat} (h : a < l.length) (hc : ¬ (l.getD a 0 = 10 ∨ l.getD a 0 = 13)) : nlM l a = nlM l (a + 1) := by rw [nlM, dif_pos h, if_neg hc]
/-- behind a gap: none: a remark that the text ends in -/
def gapM (l : List Int) (a : Nat) : Option Nat :=
  if h : a < l.length then
    if spaceB (l.getD a 0) = true then gapM l (a + 1)
    else if l.getD a 0 = 35 then
      match nlM l (a + 1) with
      | none => none
      | some j => if hj : a < j then gapM l j else none
    else some a
  else some a
termination_by l.length - a
theorem gapM_end {l : List Int} {a : Nat} (h : l.length ≤ a) : gapM l a = some a := by rw [gapM, dif_neg (by omega)]
theorem gapM_space {l : List Int} {a : Nat} (h : a < l.length) (hs : spaceB (l.getD a 0) = true) : gapM l a = gapM l (a + 1) := by rw [gapM, dif_pos h, if_pos hs]
theorem gapM_stop {l : List Int} {a : Nat} (h : a < l.length) (hs : ¬ spaceB (l.getD a 0) = true) (hc : ¬ l.getD a 0 = 35) : gapM l a = some a := by rw [gapM, dif_pos h, if_neg hs, if_neg hc]
theorem gapM_none {l : List Int} {a : Nat} (h : a < l.length) (hc : l.getD a 0 = 35) (hn : nlM l (a + 1) = none) : gapM l a = none := by
  rw [gapM, dif_pos h, if_neg (by rw [hc]; decide), if_pos hc, hn]
theorem gapM_line {l : List Int} {a j : Nat} (h : a < l.length) (hc : l.getD a 0 = 35) (hn : nlM l (a + 1) = some j) : gapM l a = gapM l j := by
  have := (nlM_ge _ _ _ rfl hn).1
  rw [gapM, dif_pos h, if_neg (by rw [hc]; decide), if_pos hc, hn]
  simp only []
  rw [dif_pos (by omega)]
theorem gapM_ge {l : List Int} : ∀ (d a j : Nat), l.length - a = d → gapM l a = some j → a ≤ j ∧ (j ≤ l.length ∨ j = a) := by
  intro d
  induction d using Nat.strongRecOn with
  | _ d ih =>
    intro a j hd h
    by_cases ha : a < l.length
    · by_cases hs : spaceB (l.getD a 0) = true
      · rw [gapM_space ha hs] at h
        have := ih (l.length - (a + 1)) (by omega) (a + 1) j rfl h
        omega
      · by_cases hc : l.getD a 0 = 35
        · cases hn : nlM l (a + 1) with
          | none => rw [gapM_none ha hc hn] at h; cases h
          | some k =>
            have hk := nlM_ge _ _ _ rfl hn
            rw [gapM_line ha hc hn] at h
            have := ih (l.length - k) (by omega) k j rfl h
            omega
        · rw [gapM_stop ha hs hc] at h
          injection h with h; omega
    · rw [gapM_end (by omega)] at h
      injection h with h; omega
/-- a place or -1 -/
def ixI : Option Nat → Int
  | none => -1
  | some j => j
/-- how many digits stand at a place -/
def digsM (l : List Int) (a : Nat) : Nat :=
  if h : a < l.length then
    if digB (l.getD a 0) = true then digsM l (a + 1) + 1 else 0
  else 0
termination_by l.length - a
theorem digsM_end {l : List Int} {a : Nat} (h : l.length ≤ a) : digsM l a = 0 := by rw [digsM, dif_neg (by omega)]
theorem digsM_stop {l : List Int} {a : Nat} (hs : ¬ digB (l.getD a 0) = true) : digsM l a = 0 := by
  by_cases h : a < l.length
  · rw [digsM, dif_pos h, if_neg hs]
  · rw [digsM, dif_neg h]
theorem digsM_one {l : List Int} {a : Nat} (h : a < l.length) (hs : digB (l.getD a 0) = true) : digsM l a = digsM l (a + 1) + 1 := by rw [digsM, dif_pos h, if_pos hs]
/-- the value of k digits from a place on -/
def valM (l : List Int) (a : Nat) : Nat → Int
  | 0 => 0
  | k+1 => 10 * valM l a k + (l.getD (a + k) 0 - 48)
/-- all of the k places from a on are digits -/
def AllD (l : List Int) (a k : Nat) : Prop := a + k ≤ l.length ∧ ∀ i, i < k → digB (l.getD (a + i) 0) = true
theorem AllD.nil (l : List Int) (a : Nat) (h : a ≤ l.length) : AllD l a 0 := ⟨by omega, fun i hi => by omega⟩
theorem AllD.snoc {l : List Int} {a k : Nat} (h : AllD l a k) (hl : a + k < l.length) (hd : digB (l.getD (a + k) 0) = true) : AllD l a (k + 1) :=
  ⟨by omega, fun i hi => by
    rcases (by omega : i < k ∨ i = k) with h1 | rfl
    · exact h.2 i h1
    · exact hd⟩
theorem AllD.digs {l : List Int} : ∀ {k a : Nat}, AllD l a k → digsM l a = k + digsM l (a + k) := by
  intro k
  induction k with
  | zero => intro a h; simp
  | succ k ih =>
    intro a h
    have h0 := h.2 0 (by omega)
    rw [Nat.add_zero] at h0
    have h1 := h.1
    rw [digsM_one (by omega) h0, ih (a := a + 1) ⟨by omega, fun i hi => by have := h.2 (i + 1) (by omega); rwa [show a + (i + 1) = a + 1 + i by omega] at this⟩, show a + 1 + k = a + (k + 1) by omega]
    omega
theorem AllD.val {l : List Int} {a k : Nat} (h : AllD l a k) : 0 ≤ valM l a k ∧ valM l a k < 10 ^ k := by
  induction k with
  | zero => simp [valM]
  | succ k ih =>
    have h1 := ih ⟨by have := h.1; omega, fun i hi => h.2 i (by omega)⟩
    have h2 := h.2 k (by omega)
    unfold digB at h2
    simp only [Bool.and_eq_true, decide_eq_true_eq] at h2
    rw [valM, Int.pow_succ]
    omega
/-- a number at a place -/
def numM (l : List Int) (a : Nat) : Option (Int × Nat) :=
  if digsM l a = 0 ∨ 9 < digsM l a then none else some (valM l a (digsM l a), a + digsM l a)
def numI : Option (Int × Nat) → Int × Int
  | none => (0, -1)
  | some (v, e) => (v, e)
theorem numM_ten {l : List Int} {a : Nat} (h : AllD l a 10) : numM l a = none := by
  have := h.digs
  unfold numM
  rw [if_pos (by omega)]
theorem numM_at {l : List Int} {a k : Nat} (h : AllD l a k) (hk : k ≤ 9) (he : l.length ≤ a + k ∨ ¬ digB (l.getD (a + k) 0) = true) : numM l a = if k = 0 then none else some (valM l a k, a + k) := by
  have h1 := h.digs
  have h2 : digsM l (a + k) = 0 := by
    rcases he with he | he
    · exact digsM_end he
    · exact digsM_stop he
  rw [h2, Nat.add_zero] at h1
  unfold numM
  rw [h1]
  by_cases h0 : k = 0
  · rw [if_pos (.inl h0), if_pos h0]
  · rw [if_neg (by omega), if_neg h0]
theorem numM_bd {l : List Int} {a : Nat} {v : Int} {e : Nat} (h : numM l a = some (v, e)) : 0 ≤ v ∧ v ≤ 999999999 ∧ a < e ∧ (a ≤ l.length → e ≤ l.length) := by
  unfold numM at h
  split at h
  · cases h
  · rename_i hn
    injection h with h
    injection h with h1 h2
    have hall : ∀ (d a : Nat), a ≤ l.length → l.length - a = d → AllD l a (digsM l a) := by
      intro d
      induction d with
      | zero => intro a ha hd; rw [digsM_end (by omega)]; exact AllD.nil l a ha
      | succ d ih =>
        intro a ha hd
        by_cases hs : digB (l.getD a 0) = true
        · rw [digsM_one (by omega) hs]
          obtain ⟨q1, q2⟩ := ih (a + 1) (by omega) (by omega)
          refine ⟨by omega, fun i hi => ?_⟩
          cases i with
          | zero => exact hs
          | succ j => have := q2 j (by omega); rwa [show a + 1 + j = a + (j + 1) by omega] at this
        · rw [digsM_stop hs]; exact AllD.nil l a ha
    by_cases ha : a ≤ l.length
    · have hA := hall _ a ha rfl
      obtain ⟨v1, v2⟩ := hA.val
      have hp : (10 : Int) ^ digsM l a ≤ 10 ^ 9 := by
        have : ((10 ^ digsM l a : Nat) : Int) ≤ ((10 ^ 9 : Nat) : Int) := by
          have := Nat.pow_le_pow_right (n := 10) (by omega) (show digsM l a ≤ 9 by omega)
          exact_mod_cast this
        simpa using this
      have := hA.1
      omega
    · rw [digsM_end (by omega)] at hn; omega
def behindM (l : List Int) (a : Nat) : Option (Int × Nat) :=
  match gapM l a with
  | none => none
  | some j => if j ≤ a then none else numM l j
structure Hd where
  kind : Int
  w : Int
  h : Int
  top : Int
  a : Nat
def headM (l : List Int) : Option Hd :=
  if l.length < 2 ∨ l.getD 0 0 ≠ 80 ∨ l.getD 1 0 < 49 ∨ 54 < l.getD 1 0 then none
  else match behindM l 2 with
    | none => none
    | some (x, a) => if x < 1 then none else
      match behindM l a with
      | none => none
      | some (y, e) => if y < 1 then none else
        if l.getD 1 0 = 49 ∨ l.getD 1 0 = 52 then some ⟨l.getD 1 0 - 48, x, y, 1, e⟩
        else match behindM l e with
          | none => none
          | some (t, g) => if t < 1 ∨ 65535 < t then none else some ⟨l.getD 1 0 - 48, x, y, t, g⟩
end Go.Proofs.YtbmlopklhgladaaDoor.Pnm
set_option linter.unusedVariables false
set_option linter.unusedSimpArgs false
namespace Go.Proofs.YtbmlopklhgladaaDoor.Pnm
open Go.RowKit K

theorem space_parts {c : Int} (s : Bool) (h : spaceB c = s) : (decide (9 ≤ c) && decide (c ≤ 13)) = true ∧ s = true ∨ (decide (9 ≤ c) && decide (c ≤ 13)) = false ∧ (c == 32) = s := by
  subst h
  unfold spaceB
  by_cases h1 : (decide (9 ≤ c) && decide (c ≤ 13)) = true
  · left; rw [h1]; simp
  · right; rw [Bool.eq_false_iff.2 h1]; simp
theorem space_any (c : Int) (w : World) : Calls Tryd.prog 47 #[.int .u8 c] w fun e w' => e = .returned (.bool (spaceB c)) ∧ w = w' := by
  have hs : spaceB c = (if 9 ≤ c then (if c ≤ 13 then true else c == 32) else c == 32) := by
    unfold spaceB
    by_cases h1 : 9 ≤ c <;> by_cases h2 : c ≤ 13 <;> simp [h1, h2]
  generalize spaceB c = s at hs ⊢
  by_cases h1 : 9 ≤ c
  · rw [if_pos h1] at hs
    by_cases h2 : c ≤ 13
    · rw [if_pos h2] at hs
      subst hs
      have d1 : decide (9 ≤ c) = true := decide_eq_true h1
      have d2 : decide (c ≤ 13) = true := decide_eq_true h2
      go_enter Tryd.func47, Tryd.ntmps47
      go_wp2
      go_ret
      exact ⟨rfl, rfl⟩
    · rw [if_neg h2] at hs
      subst hs
      have d1 : decide (9 ≤ c) = true := decide_eq_true h1
      have d2 : decide (c ≤ 13) = false := decide_eq_false h2
      go_enter Tryd.func47, Tryd.ntmps47
      go_wp2
      go_ret
      exact ⟨rfl, rfl⟩
  · rw [if_neg h1] at hs
    subst hs
    have d1 : decide (9 ≤ c) = false := decide_eq_false h1
    go_enter Tryd.func47, Tryd.ntmps47
    go_wp2
    go_ret
    exact ⟨rfl, rfl⟩
theorem pspace_any (c : Int) (w : World) : Calls Tryd.prog 43 #[.int .u8 c] w fun e w' => e = .returned (.bool (spaceB c)) ∧ w = w' := by
  have hs : spaceB c = (if c = 32 then true else if 9 ≤ c then decide (c ≤ 13) else false) := by
    unfold spaceB
    by_cases h0 : c = 32 <;> by_cases h1 : 9 ≤ c <;> by_cases h2 : c ≤ 13 <;> simp [h0, h1, h2]
  generalize spaceB c = s at hs ⊢
  by_cases h0 : c = 32
  · rw [if_pos h0] at hs
    subst hs h0
    go_enter Tryd.func43, Tryd.ntmps43
    go_wp2
    go_ret
    exact ⟨rfl, rfl⟩
  · rw [if_neg h0] at hs
    have d0 : (c == 32) = false := by simp [h0]
    by_cases h1 : 9 ≤ c
    · rw [if_pos h1] at hs
      subst hs
      have d1 : decide (9 ≤ c) = true := decide_eq_true h1
      go_enter Tryd.func43, Tryd.ntmps43
      go_wp2
      go_ret
      exact ⟨rfl, rfl⟩
    · rw [if_neg h1] at hs
      subst hs
      have d1 : decide (9 ≤ c) = false := decide_eq_false h1
      go_enter Tryd.func43, Tryd.ntmps43
      go_wp2
      go_ret
      exact ⟨rfl, rfl⟩
end Go.Proofs.YtbmlopklhgladaaDoor.Pnm
