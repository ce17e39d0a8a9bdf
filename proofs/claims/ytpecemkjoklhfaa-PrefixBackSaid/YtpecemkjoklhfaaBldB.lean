/-
  Rows of coins in memory: how they are built, read and put together.
-/
import Derived.Test.YtpecemkjoklhfaaBldA
import Derived.Deep.AppendLies
set_option linter.unusedVariables false
set_option linter.unusedSimpArgs false
namespace Go.Proofs.Ytpecemkjoklhfaa.Bld
open Go.RowKit K Srt

theorem Sl.new (w : World) (cs : List Value) (T : TypeId) : Sl (w.alloc (.cells cs.toArray T)) (some ⟨w.heap.size, 0, none⟩) cs := fun j u hu => ⟨w.heap.size, 0, rfl, by rw [World.cell?_alloc_new]; simpa using hu⟩
theorem Sl.new2 (w : World) (o : Obj) (cs : List Value) (T : TypeId) : Sl ((w.alloc o).alloc (.cells cs.toArray T)) (some ⟨w.heap.size + 1, 0, none⟩) cs := by
  have := Sl.new (w.alloc o) cs T
  rwa [World.size_alloc] at this
def flat : Nat → (Nat → Coin) → List Value
  | 0, _ => []
  | n+1, f => flat n f ++ [.int .i64 (f n).w, .slice (f n).a (f n).n (f n).c]
theorem flat_len (n : Nat) (f : Nat → Coin) : (flat n f).length = n * 2 := by
  induction n with
  | zero => rfl
  | succ n ih => rw [flat, List.length_append, ih]; simp; omega
theorem flat_get (n : Nat) (f : Nat → Coin) {i : Nat} (hi : i < n) : (flat n f)[i * 2]? = some (.int .i64 (f i).w) ∧ (flat n f)[i * 2 + 1]? = some (.slice (f i).a (f i).n (f i).c) := by
  induction n with
  | zero => omega
  | succ n ih =>
    have hl := flat_len n f
    by_cases e : i = n
    · subst e
      rw [flat, List.getElem?_append_right (by omega), List.getElem?_append_right (by omega), hl, Nat.sub_self, show i * 2 + 1 - i * 2 = 1 by omega]
      exact ⟨rfl, rfl⟩
    · have := ih (by omega)
      rw [flat, List.getElem?_append_left (by omega), List.getElem?_append_left (by omega)]
      exact this
theorem flat_one (n : Nat) (f : Nat → Coin) : ∀ u ∈ flat n f, u.oneCell' = true := by
  induction n with
  | zero => intro u h; cases h
  | succ n ih =>
    intro u h
    rw [flat, List.mem_append] at h
    rcases h with h | h
    · exact ih u h
    · simp at h; rcases h with rfl | rfl <;> rfl
theorem flat_congr {n : Nat} {f f' : Nat → Coin} (h : ∀ i, i < n → f i = f' i) : flat n f = flat n f' := by
  induction n with
  | zero => rfl
  | succ n ih => rw [flat, flat, ih (fun i hi => h i (by omega)), h n (by omega)]
def comb (f : Nat → Coin) (n : Nat) (f2 : Nat → Coin) : Nat → Coin := fun i => if i < n then f i else f2 (i - n)
def combS (f : Nat → List Int) (n : Nat) (f2 : Nat → List Int) : Nat → List Int := fun i => if i < n then f i else f2 (i - n)
theorem flat_comb (n m : Nat) (f f2 : Nat → Coin) : flat (n + m) (comb f n f2) = flat n f ++ flat m f2 := by
  induction m with
  | zero => rw [Nat.add_zero, flat, List.append_nil]; exact flat_congr (fun i hi => by unfold comb; rw [if_pos hi])
  | succ m ih =>
    rw [← Nat.add_assoc, flat, ih, flat, List.append_assoc]
    congr 2
    have : comb f n f2 (n + m) = f2 m := by unfold comb; rw [if_neg (by omega), Nat.add_sub_cancel_left]
    rw [this]
theorem rowL_comb (n m : Nat) (f f2 : Nat → Coin) (s s2 : Nat → List Int) : rowL (n + m) (comb f n f2) (combS s n s2) = rowL n f s ++ rowL m f2 s2 := by
  unfold rowL
  rw [List.range_add, List.map_append, List.map_map]
  congr 1
  · apply List.map_congr_left; intro i hi; have hi := List.mem_range.1 hi; simp [comb, combS, hi]
  · apply List.map_congr_left; intro i hi
    show ((comb f n f2 (n + i)).w, combS s n s2 (n + i)) = ((f2 i).w, s2 i)
    unfold comb combS
    rw [if_neg (by omega), if_neg (by omega), Nat.add_sub_cancel_left]
theorem own_CB {w : World} {base n c g : Nat} {f : Nat → Coin} (h : w.ownsRow base 72 2 (.slice (some ⟨g, 0, none⟩) n c) n (flat n f)) : CB w g n f := by
  rcases h.2 with ⟨hv, _⟩ | ⟨g', cap, cur, hv, hb, hg, hnc, _, hs, ht⟩
  · cases hv
  · have e : g' = g := by injection hv with hv; injection hv with hv; injection hv with hv; exact hv.symm
    subst e
    refine ⟨cur, hg, fun i hi => ?_⟩
    have hf := flat_get n f hi
    rw [← ht, List.getElem?_take, if_pos (by omega), List.getElem?_take, if_pos (by omega)] at hf
    simpa using hf
theorem CB.sl {w : World} {g n : Nat} {f : Nat → Coin} (h : CB w g n f) : Sl w (some ⟨g, 0, none⟩) (flat n f) := fun j u hu => by
  refine ⟨g, 0, rfl, ?_⟩
  have hj : j < n * 2 := by
    rcases Nat.lt_or_ge j (n * 2) with h | h
    · exact h
    · rw [List.getElem?_eq_none (by rw [flat_len]; exact h)] at hu; cases hu
  rw [Nat.zero_add]
  have hf := flat_get n f (i := j / 2) (by omega)
  by_cases e : j % 2 = 0
  · have e2 : j = j / 2 * 2 := by omega
    rw [e2] at hu ⊢
    rw [hf.1] at hu
    injection hu with hu
    rw [h.cell0 (by omega), hu]
  · have e2 : j = j / 2 * 2 + 1 := by omega
    rw [e2] at hu ⊢
    rw [hf.2] at hu
    injection hu with hu
    rw [h.cell1 (by omega), hu]
theorem rowL_get {n : Nat} {f : Nat → Coin} {s : Nat → List Int} {i : Nat} (hi : i < n) : (rowL n f s)[i]? = some ((f i).w, s i) := by
  unfold rowL; simp [hi]
theorem rowL_len (n : Nat) (f : Nat → Coin) (s : Nat → List Int) : (rowL n f s).length = n := by simp [rowL]

/-- the coins' symbols in memory -/
structure Syms (w : World) (n : Nat) (f : Nat → Coin) (ss : Nat → List Int) : Prop where
  sl : ∀ i, i < n → Sl w (f i).a ((ss i).map (.int .i64)) ∧ (f i).n = (ss i).length
  lt : ∀ i, i < n → ∀ b off s, (f i).a = some ⟨b, off, s⟩ → b < w.heap.size
theorem Syms.keep {w w' : World} {n f ss} (h : Syms w n f ss) {row : Option Nat} (hg : w.grownBy w' row) (hr : ∀ i, i < n → ∀ b off s, (f i).a = some ⟨b, off, s⟩ → some b ≠ row) : Syms w' n f ss :=
  ⟨fun i hi => ⟨fun j u hu => by
    obtain ⟨b, off, e, hc⟩ := (h.sl i hi).1 j u hu
    exact ⟨b, off, e, hg.cell hc (hr i hi b off none e)⟩, (h.sl i hi).2⟩, fun i hi b off s e => Nat.lt_of_lt_of_le (h.lt i hi b off s e) hg.size⟩
theorem Syms.below {w w' : World} {n f ss} (h : Syms w n f ss) (hb : Below w.heap.size w w') : Syms w' n f ss := h.keep (grown_below hb none) (fun _ _ _ _ _ _ => by simp)
theorem Syms.comb {w : World} {n m f f2 ss s2} (h : Syms w n f ss) (h2 : Syms w m f2 s2) : Syms w (n + m) (comb f n f2) (combS ss n s2) := by
  refine ⟨fun i hi => ?_, fun i hi b off s e => ?_⟩
  · unfold Bld.comb combS
    by_cases k : i < n
    · rw [if_pos k, if_pos k]; exact h.sl i k
    · rw [if_neg k, if_neg k]; exact h2.sl _ (by omega)
  · unfold Bld.comb at e
    by_cases k : i < n
    · rw [if_pos k] at e; exact h.lt i k b off s e
    · rw [if_neg k] at e; exact h2.lt _ (by omega) b off s e
theorem Syms.row {w : World} {g n f ss} (h : Syms w n f ss) (hc : CB w g n f) (hn : ∀ i, i < n → ∀ b off s, (f i).a = some ⟨b, off, s⟩ → b ≠ g) : Row w g n f ss := ⟨hc, h.sl, fun i hi b off s e => ⟨hn i hi b off s e, h.lt i hi b off s e⟩⟩
theorem Row.syms {w : World} {g n f ss} (h : Row w g n f ss) : Syms w n f ss := ⟨h.sl, fun i hi b off s e => (h.ap i hi b off s e).2⟩
theorem Row.keep {w w' : World} {g n f ss} (h : Row w g n f ss) {row : Option Nat} (hg : w.grownBy w' row) (hr : ∀ b, b < w.heap.size → some b ≠ row) : Row w' g n f ss :=
  (h.syms.keep hg (fun i hi b off s e => hr b (h.syms.lt i hi b off s e))).row (h.cb.of_block (hg.block g h.cb.lt (hr g h.cb.lt))) (fun i hi b off s e => (h.ap i hi b off s e).1)
theorem Row.keepb {w w' : World} {g n f ss} (h : Row w g n f ss) (hb : Below w.heap.size w w') : Row w' g n f ss := h.keep (grown_below hb none) (fun _ _ => by simp)

/-- a slice of coins that is being appended to -/
structure Apd (w : World) (base : Nat) (v : Value) (n : Nat) (f : Nat → Coin) (ss : Nat → List Int) : Prop where
  own : w.ownsRow base 72 2 v n (flat n f)
  sy : Syms w n f ss
  ap : ∀ i, i < n → ∀ b off s, (f i).a = some ⟨b, off, s⟩ → some b ≠ v.ownBlock
theorem Apd.nil (w : World) (base : Nat) (f ss) : Apd w base (.slice none 0 0) 0 f ss := ⟨World.ownsRow_nil _ _ _ _, ⟨fun i hi => by omega, fun i hi => by omega⟩, fun i hi => by omega⟩
/-- one coin more, whose symbols lie in a block c of its own -/
theorem Apd.push {w w2 : World} {base n : Nat} {v v' : Value} {f ss} {x : Coin} {s : List Int} (h : Apd w base v n f ss) (hx : Sl w2 x.a (s.map (.int .i64)) ∧ x.n = s.length) (hb : ∀ b off sp, x.a = some ⟨b, off, sp⟩ → b < w2.heap.size ∧ some b ≠ v'.ownBlock)
    (hk : ∀ i, i < n → ∀ b off sp, (f i).a = some ⟨b, off, sp⟩ → w2.heap[b]? = w.heap[b]?) (hsz : w.heap.size ≤ w2.heap.size)
    (ho : w2.ownsRow base 72 2 v' (n + 1) (flat n f ++ [.int .i64 x.w, .slice x.a x.n x.c])) (hn : ∀ i, i < n → ∀ b off sp, (f i).a = some ⟨b, off, sp⟩ → some b ≠ v'.ownBlock) :
    Apd w2 base v' (n + 1) (fun i => if i = n then x else f i) (fun i => if i = n then s else ss i) := by
  refine ⟨?_, ⟨fun i hi => ?_, fun i hi b off sp e => ?_⟩, fun i hi b off sp e => ?_⟩
  · rw [flat, if_pos rfl, flat_congr (f' := f) (fun i hi => by rw [if_neg (by omega)])]; exact ho
  · by_cases e : i = n
    · rw [if_pos e, if_pos e]; exact hx
    · rw [if_neg e, if_neg e]
      refine ⟨fun j u hu => ?_, (h.sy.sl i (by omega)).2⟩
      obtain ⟨b, off, e2, hc⟩ := (h.sy.sl i (by omega)).1 j u hu
      exact ⟨b, off, e2, (World.cell?_of_block (a := ⟨b, off + j, none⟩) (hk i (by omega) b off none e2)).trans hc⟩
  · by_cases e1 : i = n
    · rw [if_pos e1] at e; exact (hb b off sp e).1
    · rw [if_neg e1] at e; exact Nat.lt_of_lt_of_le (h.sy.lt i (by omega) b off sp e) hsz
  · by_cases e1 : i = n
    · rw [if_pos e1] at e; exact (hb b off sp e).2
    · rw [if_neg e1] at e; exact hn i (by omega) b off sp e
theorem rowL_push (n : Nat) (f : Nat → Coin) (ss : Nat → List Int) (x : Coin) (s : List Int) : rowL (n+1) (fun i => if i = n then x else f i) (fun i => if i = n then s else ss i) = rowL n f ss ++ [(x.w, s)] := by
  unfold rowL
  rw [List.range_succ, List.map_append]
  congr 1
  · apply List.map_congr_left; intro i hi; have := List.mem_range.1 hi; show ((if i = n then x else f i).w, (if i = n then s else ss i)) = _; rw [if_neg (by omega), if_neg (by omega)]
  · simp
theorem own_below {w w' : World} {base e sz n : Nat} {v : Value} {xs : List Value} (h : w.ownsRow base e sz v n xs) (hb : Below w.heap.size w w') : w'.ownsRow base e sz v n xs :=
  h.kept (grown_below hb none) (by cases hv : v.ownBlock with
    | none => exact .inl rfl
    | some q => exact .inr (by simp))
/-- an append of one element that has just been laid, in a region that draws its order -/
theorem step_push {P : Program} {ops : Array Oper} {o : Oper} {a : Act} {w : World} {K : Act → World → Prop} {Q : Exit → Act → World → Prop} {E : Prop} (hgd : o.guard = none) (s x : Operand) (t : TypeId)
    (ho : o.op = .call { callee := .builtin .append, args := #[s, x], argTypes := #[t, t] }) (base e size bytes : Nat) (z : Value) (ht : P.underlying t = some (.slice e))
    (hinfo : (P.info? e).map (fun i => (i.zero, i.size, i.bytes)) = some (some z, size, bytes)) (hzs : z.cells.size = size) (hsz : 0 < size)
    (v : Value) (n : Nat) (xs : List Value) (hs : a.eval s = v) (hown : w.ownsRow base e size v n xs) (B c : Nat) (cs : List Value) (T : TypeId)
    (hx : a.eval x = .slice (some ⟨B, 0, none⟩) 1 c) (hl : cs.length = size) (hb : w.heap[B]? = some (.cells cs.toArray T (0, 0))) (h1 : ∀ u ∈ cs, u.oneCell' = true)
    (h63 : n + 1 ≤ maxLen) (hbytes : (n + 1) * bytes ≤ 140737488355328) (hbase : base ≤ w.heap.size) (H : Nat) (hH : w.heap.size = H)
    (h : ∀ g cap w', w'.ownsRow base e size (.slice (some ⟨g, 0, none⟩) (n + 1) cap) (n + 1) (xs ++ cs) → w.grownBy w' v.ownBlock → (v.ownBlock = some g ∨ g = H) → g < w'.heap.size → K (a.put o.dst (.slice (some ⟨g, 0, none⟩) (n + 1) cap)) w') :
    if Region.wanted o (yielded ops a.tmps) = true then Oper.wp P o a w K Q else E := by
  obtain ⟨i, hi, hz, h2, h3⟩ := info_parts hinfo
  exact step_append_lies w hgd s x t ho base e i z size bytes ht hi hz h2 h3 hzs hsz v n xs hs hown ⟨B, 0, none⟩ 1 c cs hx (by rw [hl, Nat.one_mul]) (by simpa using World.news_of_block hb) h1 (by omega) h63 hbytes hbase H hH h
theorem cellK {w wx : World} {o : Obj} {a : Addr} {v : Value} (h : w.cell? a = some v) (hb : Below (w.alloc o).drew.heap.size (w.alloc o).drew wx) : wx.cell? a = some v := by
  have hlt := World.block_lt_of_cell? w a h
  rw [hb.cell (p := a) (by simp; omega)]
  show (w.alloc o).cell? a = _
  rw [World.cell?_alloc_lt _ _ _ hlt]; exact h
theorem cellP {w wx : World} {o : Obj} {a : Addr} {v : Value} {row : Option Nat} (h : w.cell? a = some v) (hg : (w.alloc o).grownBy wx row) (hne : some a.block ≠ row) : wx.cell? a = some v := by
  have hlt := World.block_lt_of_cell? w a h
  exact hg.cell (by rw [World.cell?_alloc_lt _ _ _ hlt]; exact h) hne
theorem Apd.pushcat {wr w3 w5 : World} {base j n4 c4 cp gg cap E : Nat} {Ap A4 : Option Addr} {fp : Nat → Coin} {sp : Nat → List Int} {wt : Int} {s : List Int} {o1 o2 : Obj}
    (hapd : Apd wr base (.slice Ap j cp) j fp sp) (hb4 : Below (wr.alloc o1).drew.heap.size (wr.alloc o1).drew w3) (hown4 : w3.ownsRow (wr.alloc o1).drew.heap.size E 1 (.slice A4 n4 c4) n4 (s.map (.int .i64))) (hn4 : n4 = s.length)
    (hg5 : (w3.alloc o2).grownBy w5 (Value.slice Ap j cp).ownBlock) (hown5 : w5.ownsRow base 72 2 (.slice (some ⟨gg, 0, none⟩) (j + 1) cap) (j + 1) (flat j fp ++ [.int .i64 wt, .slice A4 n4 c4]))
    (hat5 : (Value.slice Ap j cp).ownBlock = some gg ∨ gg = w3.heap.size + 1) :
    Apd w5 base (.slice (some ⟨gg, 0, none⟩) (j + 1) cap) (j + 1) (fun i => if i = j then ⟨wt, A4, n4, c4⟩ else fp i) (fun i => if i = j then s else sp i) ∧ (Below base wr w5 ∨ wr.heap.size < base) := by
  have hlt := hapd.own.lt
  have hs4 := hb4.size
  have hs5 := hg5.size
  simp only [World.size_alloc, World.size_drew] at hs4 hs5
  have hA4 : ∀ b off sp, A4 = some ⟨b, off, sp⟩ → wr.heap.size < b ∧ b < w3.heap.size := fun b off sp e => by
    have := hown4.lt b (by rw [e]; rfl)
    simp only [World.size_alloc, World.size_drew] at this
    omega
  have hne4 : ∀ b, wr.heap.size < b → some b ≠ (Value.slice Ap j cp).ownBlock := fun b hb e => by have := (hlt b e.symm).2; omega
  have hold : ∀ b, b < wr.heap.size → some b ≠ (Value.slice Ap j cp).ownBlock → w5.heap[b]? = wr.heap[b]? := fun b hb hne => by
    rw [hg5.block b (by simp; omega) hne, Below.heap_alloc _ _ _ (by omega), hb4.block b (by simp; omega)]
    exact Below.heap_alloc _ _ _ hb
  refine ⟨hapd.push (x := ⟨wt, A4, n4, c4⟩) (s := s) ⟨fun q u hu => ?_, hn4⟩ (fun b off sp e => ⟨by have := (hA4 b off sp e).2; omega, fun e2 => ?_⟩) (fun i hi b off sp e => hold b (hapd.sy.lt i hi b off sp e) (hapd.ap i hi b off sp e)) (by omega) hown5 (fun i hi b off sp e e2 => ?_), ?_⟩
  · obtain ⟨b, off, e, hc⟩ := Sl.of_own hown4 q u hu
    exact ⟨b, off, e, cellP hc hg5 (hne4 b (hA4 b off none e).1)⟩
  · have h1 := hA4 b off sp e
    injection e2 with e2
    have e2 : b = gg := e2
    rcases hat5 with h | h
    · have := (hlt _ h).2; omega
    · omega
  · have h1 := hapd.sy.lt i hi b off sp e
    have h2 := hapd.ap i hi b off sp e
    injection e2 with e2
    have e2 : b = gg := e2
    rcases hat5 with h | h
    · rw [h] at h2; exact h2 (by rw [e2])
    · omega
  · by_cases hbs : base ≤ wr.heap.size
    · exact .inl ⟨(hg5.os.trans hb4.os), (hg5.tape.trans hb4.tape), (hg5.output.trans hb4.output), by omega, fun b hb => hold b (by omega) (fun e => by have := (hlt b e.symm).1; omega)⟩
    · exact .inr (by omega)
theorem own_cap {w : World} {base e sz n c : Nat} {A : Option Addr} {xs : List Value} (h : w.ownsRow base e sz (.slice A n c) n xs) (hn : 0 < n) : n ≤ c := by
  rcases h.2 with ⟨_, q⟩ | ⟨g', cap, cur, hv, _, _, q, _⟩
  · omega
  · injection hv with _ _ hv; omega
/-- the row of two slices put together -/
theorem Row.joined {wr w6 : World} {m j g6 c6 : Nat} {f1 fp : Nat → Coin} {s1 sp : Nat → List Int} {o : Obj} (h1 : Syms wr m f1 s1) (h2 : Syms wr j fp sp) (hb : Below (wr.alloc o).heap.size (wr.alloc o) w6)
    (ho : w6.ownsRow (wr.alloc o).heap.size 72 2 (.slice (some ⟨g6, 0, none⟩) (m + j) c6) (m + j) (flat m f1 ++ flat j fp)) (hg : wr.heap.size < g6) : Row w6 g6 (m + j) (comb f1 m fp) (combS s1 m sp) := by
  have hc := h1.comb h2
  have hb2 : Below wr.heap.size wr w6 := ((Below.refl wr.heap.size wr).alloc (Nat.le_refl _) o).trans (hb.mono (by simp))
  rw [← flat_comb] at ho
  exact (hc.below hb2).row (own_CB ho) (fun i hi b off s e => by have := hc.lt i hi b off s e; omega)
/-- no coin's symbols lie in block bo -/
def NB (bo n : Nat) (f : Nat → Coin) : Prop := ∀ i, i < n → ∀ b off s, (f i).a = some ⟨b, off, s⟩ → b ≠ bo
theorem NB.perm {bo n f f'} (h : NB bo n f) (p : Pm 0 n f f') : NB bo n f' := fun i hi b off s e => by
  obtain ⟨k, _, hk, he⟩ := p.from (Nat.zero_le i) hi
  rw [he] at e; exact h k hk b off s e
theorem NB.comb {bo n m f f2} (h : NB bo n f) (h2 : NB bo m f2) : NB bo (n + m) (Bld.comb f n f2) := fun i hi b off s e => by
  unfold Bld.comb at e
  split at e
  · exact h i (by assumption) b off s e
  · exact h2 _ (by omega) b off s e
theorem NB.push {bo n f} (h : NB bo n f) (x : Coin) (hx : ∀ b off s, x.a = some ⟨b, off, s⟩ → b ≠ bo) : NB bo (n + 1) (fun i => if i = n then x else f i) := fun i hi b off s e => by
  simp only at e
  split at e
  · exact hx b off s e
  · exact h i (by omega) b off s e
theorem NB.nil (bo : Nat) (f) : NB bo 0 f := fun i hi => by omega
theorem occ_len {R : List PC} {B : Nat} (h : ∀ c ∈ R, c.2.length ≤ B) (q : Nat) : (occ R q).length ≤ q * B := by
  induction q with
  | zero => simp [occ]
  | succ q ih =>
    rw [Nat.add_mul, Nat.one_mul]
    by_cases hq : q < R.length
    · rw [occ_succ (List.getElem?_eq_getElem hq), List.length_append]
      have := h R[q] (List.getElem_mem hq)
      omega
    · have : occ R (q+1) = occ R q := by unfold occ; rw [List.take_of_length_le (by omega), List.take_of_length_le (by omega)]
      rw [this]; omega
theorem Row.turned {w w' : World} {g n bo : Nat} {f ss} (h : Row w g n f ss) (hg : w.grownBy w' (some bo)) (hne : g ≠ bo) (hnb : NB bo n f) : Row w' g n f ss :=
  (h.syms.keep hg (fun i hi b off s e e2 => hnb i hi b off s e (by injection e2))).row (h.cb.of_block (hg.block g h.cb.lt (fun e => hne (by injection e)))) (fun i hi b off s e => (h.ap i hi b off s e).1)
theorem count_snoc (L : List Int) (s x : Int) : (L ++ [s]).count x = L.count x + if x = s then 1 else 0 := by
  rw [List.count_append, List.count_singleton]
  congr 1
  by_cases h : x = s
  · subst h; simp
  · have : (s == x) = false := by simpa using fun e => h e.symm
    rw [this, if_neg h]; rfl
end Go.Proofs.Ytpecemkjoklhfaa.Bld
