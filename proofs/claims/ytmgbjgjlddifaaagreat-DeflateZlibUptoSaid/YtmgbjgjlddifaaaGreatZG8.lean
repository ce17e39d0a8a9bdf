/-
  Walks: the bits' writer.
-/
import Derived.Test.YtmgbjgjlddifaaaGreatZG7
import Derived.StillTailTactics
import Derived.Deep.DeepCutAuto
set_option linter.unusedVariables false
set_option linter.unusedSimpArgs false
namespace Go.Proofs.YtmgbjgjlddifaaaGreat.Wrt
open Go.RowKit K Bits

/-- what became of a world: only the blocks of S have turned, new ones have come -/
structure Chg (w w' : World) (S : Nat → Prop) : Prop where
  os : w'.os = w.os
  tape : w'.tape = w.tape
  output : w'.output = w.output
  size : w.heap.size ≤ w'.heap.size
  block : ∀ i, i < w.heap.size → ¬ S i → w'.heap[i]? = w.heap[i]?
section
variable {w w1 w2 : World} {S S2 : Nat → Prop}
theorem Chg.refl (w : World) (S : Nat → Prop) : Chg w w S := ⟨rfl, rfl, rfl, Nat.le_refl _, fun _ _ _ => rfl⟩
theorem Chg.of_grown {row : Option Nat} (h : w.grownBy w1 row) (hS : ∀ b, row = some b → b < w.heap.size → S b) : Chg w w1 S :=
  ⟨h.os, h.tape, h.output, h.size, fun i hi hn => h.block i hi (fun e => hn (hS i e.symm hi))⟩
theorem Chg.of_below (h : Below w.heap.size w w1) : Chg w w1 S := .of_grown (grown_below h none) (fun b e => by cases e)
theorem Chg.trans (h : Chg w w1 S) (h2 : Chg w1 w2 S2) (hS : ∀ i, i < w.heap.size → S2 i → S i) : Chg w w2 S :=
  ⟨h2.os.trans h.os, h2.tape.trans h.tape, h2.output.trans h.output, Nat.le_trans h.size h2.size, fun i hi hn => (h2.block i (Nat.lt_of_lt_of_le hi h.size) (fun e => hn (hS i hi e))).trans (h.block i hi hn)⟩
theorem Chg.below (h : Chg w w1 S) {B : Nat} (hB : B ≤ w.heap.size) (hS : ∀ i, S i → B ≤ i) : Below B w w1 :=
  ⟨h.os, h.tape, h.output, Nat.le_trans (Nat.le_refl _) h.size, fun i hi => h.block i (by omega) (fun e => by have := hS i e; omega)⟩
theorem Chg.cell (h : Chg w w1 S) {a : Addr} {v : Value} (hc : w.cell? a = some v) (hn : ¬ S a.block) : w1.cell? a = some v :=
  (World.cell?_of_block (h.block _ (World.block_lt_of_cell? w _ hc) hn)).trans hc
theorem Chg.mono (h : Chg w w1 S) (hS : ∀ i, i < w.heap.size → S i → S2 i) : Chg w w1 S2 := ⟨h.os, h.tape, h.output, h.size, fun i hi hn => h.block i hi (fun e => hn (hS i hi e))⟩
end
def wtF (A : Option Addr) (n c k : Nat) (up : Bool) : Nat → Value
  | 0 => .slice A n c
  | 1 => .int .i64 k
  | 2 => .bool up
  | _ => .func (.func (if up then 64 else 65)) #[] #[]
/-- a writer at block q that holds the bits bs -/
structure Wt (w : World) (q base : Nat) (A : Option Addr) (c : Nat) (B : List Int) (bs : List Int) (up : Bool) : Prop where
  row : w.rowIs q 81 4 (wtF A B.length c bs.length up)
  own : w.ownsRow base 5 1 (.slice A B.length c) B.length (B.map (.int .u8))
  apart : q < base
  hi : base ≤ w.heap.size
  pk : Pk B up bs
  big : bs.length ≤ 281474976710656
def own (A : Option Addr) : Option Nat := (Value.slice A 0 0).ownBlock
theorem own_eq (A : Option Addr) (n c : Nat) : (Value.slice A n c).ownBlock = own A := by cases A <;> rfl
/-- the blocks that a writer writes to -/
def WS (q : Nat) (A : Option Addr) (i : Nat) : Prop := i = q ∨ own A = some i
def NewWPost (w : World) (up : Bool) (e : Ending) (w' : World) : Prop :=
  e = .returned (.pointer (some ⟨w.heap.size, 0, none⟩)) ∧ Wt w' w.heap.size (w.heap.size + 1) none 0 [] [] up ∧ Below w.heap.size w w'
theorem newWriter_any (w : World) (up : Bool) : Calls Tryz.prog 16 #[.bool up] w (NewWPost w up) := by
  go_enter Tryz.func16, Tryz.ntmps16
  go_wp2_with fail
  refine (order_any _ up).mono ?_
  rintro e w' ⟨rfl, rfl⟩
  generalize hf : (Fn.func (if up = true then 64 else 65)) = fn
  go_wp2
  go_ret
  have hr := World.rowIs_alloc w #[.slice none 0 0, .int .i64 0, .bool up, .func fn #[] #[]] 81 (wtF none 0 0 0 up) (fun i hi => by
    simp only [List.size_toArray, List.length_cons, List.length_nil] at hi
    have : i = 0 ∨ i = 1 ∨ i = 2 ∨ i = 3 := by omega
    rcases this with rfl | rfl | rfl | rfl <;> simp [wtF, hf])
  exact ⟨rfl, ⟨hr, World.ownsRow_nil _ _ _ _, Nat.lt_succ_self _, by simp, Pk.nil up, by simp⟩, (Below.refl _ _).alloc (Nat.le_refl _) _⟩
theorem Wt.len_le {w : World} {q base : Nat} {A : Option Addr} {c : Nat} {B bs : List Int} {up : Bool} (h : Wt w q base A c B bs up) : B.length ≤ 35184372088832 := by
  have := h.pk.len; have := h.big; omega
/-- .. with room for one bit more -/
structure Wq (w : World) (q base : Nat) (A : Option Addr) (c : Nat) (B : List Int) (bs : List Int) (up : Bool) : Prop where
  row : w.rowIs q 81 4 (wtF A B.length c bs.length up)
  own : w.ownsRow base 5 1 (.slice A B.length c) B.length (B.map (.int .u8))
  apart : q < base
  hi : base ≤ w.heap.size
  pq : Pq B up bs
  lt : bs.length < 8 * B.length
  lt2 : 8 * B.length < bs.length + 9
theorem Wt.room {w : World} {q base : Nat} {A : Option Addr} {c : Nat} {B bs : List Int} {up : Bool} (h : Wt w q base A c B bs up) (h8 : ¬ bs.length % 8 = 0) : Wq w q base A c B bs up :=
  ⟨h.row, h.own, h.apart, h.hi, h.pk.q, by have := h.pk.q.le; omega, by have := h.pk.lt; omega⟩
theorem Wt.grow {w w1 : World} {q base : Nat} {A A1 : Option Addr} {c c1 : Nat} {B bs : List Int} {up : Bool} {o : Obj} (h : Wt w q base A c B bs up) (h8 : bs.length % 8 = 0)
    (hown : w1.ownsRow base 5 1 (.slice A1 (B.length + 1) c1) (B.length + 1) (B.map (.int .u8) ++ [.int .u8 0])) (hg : (w.alloc o).grownBy w1 (Value.slice A B.length c).ownBlock) :
    Wq (w1.setCell ⟨q, 0, none⟩ (.slice A1 (B.length + 1) c1)) q base A1 c1 (B ++ [0]) bs up := by
  have hlt := h.row.lt
  have hs := hg.size
  have hh := h.hi
  have ha := h.apart
  simp at hs
  have hne : ∀ z, (Value.slice A B.length c).ownBlock = some z → base ≤ z := fun z hz => (h.own.lt z hz).1
  have hr := (h.row.alloc o).of_block (hg.block q (by simp; omega) (fun e => by have := hne _ e.symm; omega))
  have hl := h.pk.len
  have e : (B ++ [0]).length = B.length + 1 := by simp
  refine ⟨?_, ?_, ha, by simp; omega, h.pk.q.grow, by rw [e]; omega, by rw [e]; omega⟩
  · rw [e]
    refine (hr.set 0 _).congr (fun j hj => ?_)
    by_cases h0 : j = 0
    · subst h0; rw [if_pos rfl]; rfl
    · rw [if_neg h0]
      have : j = 1 ∨ j = 2 ∨ j = 3 := by omega
      rcases this with rfl | rfl | rfl <;> rfl
  · rw [e, List.map_append]
    refine hown.kept (grown_set (World.grownBy.refl _ _) _ _) ?_
    by_cases e : (Value.slice A1 (B.length + 1) c1).ownBlock = none
    · exact .inl e
    · exact .inr (fun e2 => by have := (hown.lt _ e2).1; omega)
theorem Wq.put {w : World} {q base g : Nat} {c : Nat} {B bs : List Int} {up : Bool} {x y : Int} (h : Wq w q base (some ⟨g, 0, none⟩) c B bs up) (hx : x = 0 ∨ x = 1) (hy : B[bs.length / 8]? = some y) (hbig : bs.length < 281474976710656) :
    Wt (((w.setCell ⟨g, bs.length / 8, none⟩ (.int .u8 (y + x * 2 ^ place up bs.length))).setCell ⟨q, 1, none⟩ (.int .i64 ((bs.length : Int) + 1))).drew) q base (some ⟨g, 0, none⟩) c (B.set (bs.length / 8) (y + x * 2 ^ place up bs.length)) (bs ++ [x]) up := by
  have ha := h.apart
  have hgl := h.own.lt g rfl
  have hgq : g ≠ q := by omega
  have el : (B.set (bs.length / 8) (y + x * 2 ^ place up bs.length)).length = B.length := List.length_set
  obtain ⟨-, -, -, hp⟩ := h.pq.put h.lt hx hy
  refine ⟨?_, ?_, ha, by simp [World.setCell]; have := h.hi; exact this, ⟨hp, ?_⟩, by rw [List.length_append]; simp; omega⟩
  · rw [el]
    refine ((h.row.setOther (by simp; omega) _).set 1 _).drew.congr (fun j hj => ?_)
    by_cases h0 : j = 1
    · subst h0; rw [if_pos rfl]; simp [wtF]
    · rw [if_neg h0]
      have : j = 0 ∨ j = 2 ∨ j = 3 := by omega
      rcases this with rfl | rfl | rfl <;> simp [wtF]
  · rw [el, List.map_set]
    exact ((h.own.stored _ _).1.kept (grown_set (World.grownBy.refl _ _) _ _) (.inr (by simp [Value.ownBlock]; omega))).drew
  · rw [el, List.length_append]; have := h.lt2; simp; omega
theorem Chg.two (W : World) (g q i j : Nat) (v u : Value) : Chg W ((W.setCell ⟨g, i, none⟩ v).setCell ⟨q, j, none⟩ u).drew (fun b => b = g ∨ b = q) :=
  ⟨rfl, rfl, rfl, by simp [World.setCell], fun b hb hn => (Below.heap_setCell (W.setCell ⟨g, i, none⟩ v) ⟨q, j, none⟩ u b (fun e => hn (.inr (by simpa using e)))).trans (Below.heap_setCell W ⟨g, i, none⟩ v b (fun e => hn (.inl (by simpa using e))))⟩
def OnePost (w : World) (q base : Nat) (A : Option Addr) (bs : List Int) (up : Bool) (e : Ending) (w' : World) : Prop :=
  e = .returned (.tuple #[]) ∧ ∃ A' c' B', Wt w' q base A' c' B' bs up ∧ Chg w w' (WS q A) ∧ (own A' = own A ∨ ∀ b, own A' = some b → w.heap.size ≤ b)
set_option maxRecDepth 20000 in
set_option maxHeartbeats 2000000 in
theorem one_any {q base : Nat} {A : Option Addr} {c : Nat} {B bs : List Int} {up : Bool} {x : Int} (w : World) (HW : Wt w q base A c B bs up) (hx : x = 0 ∨ x = 1) (hbig : bs.length < 281474976710656) :
    Calls Tryz.prog 37 #[.pointer (some ⟨q, 0, none⟩), .int .u8 x] w (OnePost w q base A (bs ++ [x]) up) := by
  have hlb := HW.len_le
  have c0 := HW.row.cell (i := 0) (by omega)
  have c1 := HW.row.cell (i := 1) (by omega)
  have c2 := HW.row.cell (i := 2) (by omega)
  have c3 := HW.row.cell (i := 3) (by omega)
  have g0 := HW.row.frozen 0
  have g1 := HW.row.frozen 1
  simp only [wtF] at c0 c1 c2 c3
  by_cases h8 : bs.length % 8 = 0
  · have h8' : ((bs.length : Int) % 8 == 0) = true := by simp; omega
    have H8 := Lib.hid h8
    clear h8
    have hown := HW.own
    have hhi := HW.hi
    have hap := HW.apart
    have HWW := Lib.hid HW
    have hqlt := HW.row.lt
    clear HW
    go_enter Tryz.func37, Tryz.ntmps37
    go_wp2_with (at_builtin; refine wpList_append_sl _ rfl (.tmp 14) (.tmp 15) _ rfl base 5 1 1 _ Tryz.underlying22 infoU8 rfl (by omega) (.slice A B.length c) B.length _ rfl (hown.alloc _) _ 1 1 [.int .u8 0] rfl rfl (Sl.one w _ _) ?c1 ?c2 ?c3 ?c4 ?_)
    case c1 => simp [Value.oneCell']
    case c2 => unfold maxLen; omega
    case c3 => omega
    case c4 => simp; omega
    intro v' w1 hown1 hg hor
    obtain ⟨A1, c1', rfl⟩ := own_form hown1
    have hne : ∀ z, (Value.slice A B.length c).ownBlock = some z → base ≤ z := fun z hz => (hown.lt z hz).1
    have hbq : w1.heap[q]? = w.heap[q]? := (hg.block q (by simp; omega) (fun e => by have := hne _ e.symm; omega)).trans (Below.heap_alloc _ _ _ hqlt)
    have r1 := HWW.out.row.of_block hbq
    have k0 := r1.cell (i := 0) (by omega)
    have k1 := r1.cell (i := 1) (by omega)
    have k2 := r1.cell (i := 2) (by omega)
    have k3 := r1.cell (i := 3) (by omega)
    have j0 := r1.frozen 0
    have j1 := r1.frozen 1
    simp only [wtF] at k0 k1 k2 k3
    have HQ := Lib.hid (HWW.out.grow H8.out hown1 hg)
    have HC : Hid (Chg w (w1.setCell ⟨q, 0, none⟩ (.slice A1 (B.length + 1) c1')) (WS q A)) := by
      have h1 : Chg w w1 (WS q A) := (Chg.of_below ((Below.refl w.heap.size w).alloc (Nat.le_refl _) (.cells #[.int .u8 0] 5))).trans (S2 := WS q A) (.of_grown hg (fun b e _ => .inr (by rw [← own_eq A B.length c]; exact e))) (fun _ _ h => h)
      exact h1.trans (.of_grown (grown_set (World.grownBy.refl _ _) _ _) (fun b e _ => .inl (by injection e with e; exact e.symm))) (S2 := WS q A) (fun _ _ h => h)
    have HO : Hid (own A1 = own A ∨ ∀ b, own A1 = some b → w.heap.size ≤ b) := by
      show _ ∨ _
      rw [own_eq, own_eq] at hor
      rcases hor with h | h
      · exact .inl h
      · exact .inr (fun b e => by rw [h] at e; injection e with e; omega)
    clear hown1 hg hor hown hbq r1 c0 c1 c2 c3 g0 g1 hne hhi
    go_upto_region 2 with (fail)
    generalize w1.setCell ⟨q, 0, none⟩ (.slice A1 (B.length + 1) c1') = W at *
    have eL : (B ++ [0]).length = B.length + 1 := by simp
    rw [← eL]
    clear eL k0 k1 k2 k3 j0 j1
    generalize B ++ [0] = B1 at *
    obtain ⟨g, rfl⟩ : ∃ g, A1 = some ⟨g, 0, none⟩ := by
      rcases HQ.out.own.2 with ⟨hv, -⟩ | ⟨g, cap, cur, hv, -⟩
      · injection hv with _ h2; have := HQ.out.lt; omega
      · injection hv with hv; exact ⟨g, hv⟩
    have k0 := HQ.out.row.cell (i := 0) (by omega)
    have k1 := HQ.out.row.cell (i := 1) (by omega)
    have k3 := HQ.out.row.cell (i := 3) (by omega)
    have j1 := HQ.out.row.frozen 1
    simp only [wtF] at k0 k1 k3
    have hlt8 := HQ.out.lt
    have hin : bs.length / 8 < B1.length := by omega
    obtain ⟨y, hy⟩ : ∃ y, B1[bs.length / 8]? = some y := ⟨_, List.getElem?_eq_getElem hin⟩
    have ky : W.cell? ⟨g, bs.length / 8, none⟩ = some (.int .u8 y) := by
      rw [HQ.out.own.cellAt _ (by omega), List.getElem?_map, hy]; rfl
    have kf := HQ.out.own.frozenAt (bs.length / 8)
    obtain ⟨hz, y0, y1, -⟩ := HQ.out.pq.put hlt8 hx hy
    have hpl := place_le up bs.length
    obtain ⟨b1, b2, b3, b4, b5, -, -⟩ := byte_set y0 y1 hpl hx hz
    have hgq : ¬ g = q := by have := (HQ.out.own.lt g rfl).1; have := HQ.out.apart; omega
    have HPUT := Lib.hid (HQ.out.put hx hy hbig)
    have HX := Lib.hid hx
    have HY := Lib.hid hy
    have hx0 : 0 ≤ x := by omega
    have hx1 : x ≤ 1 := by omega
    have e1 : IntKind.i64.wrap ((bs.length : Int) / 8) = (bs.length : Int) / 8 := IntWalk.i64_in _ (by omega)
    have e2 : ((bs.length : Int) / 8).toNat = bs.length / 8 := by omega
    have e3 : 0 ≤ (bs.length : Int) / 8 := by omega
    have e4 : (bs.length : Int) / 8 < (B1.length : Int) := by omega
    have e5 : IntKind.u8.wrap (x * 2 ^ place up bs.length) = x * 2 ^ place up bs.length := IntWalk.u8_in _ (by omega)
    clear hy hx hz
    cases up
    all_goals
      simp only [if_pos, Bool.false_eq_true, if_false] at k3
      refine wp_region_still_tail 24 (by kernel_rfl) (by kernel_rfl) ?_
      simp only [List.take_succ_cons, List.take_zero, List.drop_succ_cons, List.drop_zero]
      repeat still_step
      still_call (by first | exact ((high_any _ bs.length (by omega)).mono fun _ _ h => ⟨h.1, h.2.symm⟩) | exact ((low_any _ bs.length (by omega)).mono fun _ _ h => ⟨h.1, h.2.symm⟩))
      repeat still_step
      refine wpStill_nil ?_
      change wpList _ _ _ _ _ W.drew
      go_wp2
      go_end0
      refine ⟨rfl, _, _, _, HPUT.out, HC.out.trans (Chg.two W g q _ _ _ _) (fun i hi hS => ?_), HO.out⟩
      rcases hS with e | e
      · rcases HO.out with h | h
        · exact .inr (by rw [e]; exact h.symm)
        · have := h g rfl; omega
      · exact .inl e
  · have h8' : ((bs.length : Int) % 8 == 0) = false := by simp; omega
    have HQ := Lib.hid (HW.room h8)
    clear h8 HW
    go_enter Tryz.func37, Tryz.ntmps37
    go_upto_region 2 with (fail)
    clear c0 c1 c2 c3 g0 g1
    obtain ⟨g, rfl⟩ : ∃ g, A = some ⟨g, 0, none⟩ := by
      rcases HQ.out.own.2 with ⟨hv, -⟩ | ⟨g, cap, cur, hv, -⟩
      · injection hv with _ h2; have := HQ.out.lt; omega
      · injection hv with hv; exact ⟨g, hv⟩
    have k0 := HQ.out.row.cell (i := 0) (by omega)
    have k1 := HQ.out.row.cell (i := 1) (by omega)
    have k3 := HQ.out.row.cell (i := 3) (by omega)
    have j1 := HQ.out.row.frozen 1
    simp only [wtF] at k0 k1 k3
    have hlt8 := HQ.out.lt
    have hin : bs.length / 8 < B.length := by omega
    obtain ⟨y, hy⟩ : ∃ y, B[bs.length / 8]? = some y := ⟨_, List.getElem?_eq_getElem hin⟩
    have ky : w.cell? ⟨g, bs.length / 8, none⟩ = some (.int .u8 y) := by
      rw [HQ.out.own.cellAt _ (by omega), List.getElem?_map, hy]; rfl
    have kf := HQ.out.own.frozenAt (bs.length / 8)
    obtain ⟨hz, y0, y1, -⟩ := HQ.out.pq.put hlt8 hx hy
    have hpl := place_le up bs.length
    obtain ⟨b1, b2, b3, b4, b5, -, -⟩ := byte_set y0 y1 hpl hx hz
    have hgq : ¬ g = q := by have := (HQ.out.own.lt g rfl).1; have := HQ.out.apart; omega
    have HPUT := Lib.hid (HQ.out.put hx hy hbig)
    have HX := Lib.hid hx
    have HY := Lib.hid hy
    have hx0 : 0 ≤ x := by omega
    have hx1 : x ≤ 1 := by omega
    have e1 : IntKind.i64.wrap ((bs.length : Int) / 8) = (bs.length : Int) / 8 := IntWalk.i64_in _ (by omega)
    have e2 : ((bs.length : Int) / 8).toNat = bs.length / 8 := by omega
    have e3 : 0 ≤ (bs.length : Int) / 8 := by omega
    have e4 : (bs.length : Int) / 8 < (B.length : Int) := by omega
    have e5 : IntKind.u8.wrap (x * 2 ^ place up bs.length) = x * 2 ^ place up bs.length := IntWalk.u8_in _ (by omega)
    clear hy hx hz
    cases up
    all_goals
      simp only [if_pos, Bool.false_eq_true, if_false] at k3
      refine wp_region_still_tail 24 (by kernel_rfl) (by kernel_rfl) ?_
      simp only [List.take_succ_cons, List.take_zero, List.drop_succ_cons, List.drop_zero]
      repeat still_step
      still_call (by first | exact ((high_any _ bs.length (by omega)).mono fun _ _ h => ⟨h.1, h.2.symm⟩) | exact ((low_any _ bs.length (by omega)).mono fun _ _ h => ⟨h.1, h.2.symm⟩))
      repeat still_step
      refine wpStill_nil ?_
      change wpList _ _ _ _ _ w.drew
      go_wp2
      go_end0
      refine ⟨rfl, _, _, _, HPUT.out, (Chg.two w g q _ _ _ _).mono (fun i hi hS => ?_), .inl rfl⟩
      rcases hS with e | e
      · exact .inr (by rw [e]; rfl)
      · exact .inl e
end Go.Proofs.YtmgbjgjlddifaaaGreat.Wrt
