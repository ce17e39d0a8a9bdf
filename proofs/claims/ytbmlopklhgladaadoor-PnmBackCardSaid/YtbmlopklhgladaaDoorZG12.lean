/-
  Texts of this claim, joined by program (GrdA, Hld, GrdB, Stl). Walks: raster.colour; grid.fits, slices.Clone, grid.Of, H at colours.
-/
import Derived.Test.YtbmlopklhgladaaDoorZG10
import Derived.Test.YtbmlopklhgladaaDoorZG5
import Derived.Deep.DeepCutAuto
import Derived.RangeFuncBox
import Derived.RangeFuncLeaves
import Derived.RangeFuncNested
import Derived.Shelf.Abstract
import Derived.OwnWalkIn
import Derived.TacticsInMore
import Derived.LoopNIn
import Derived.LoopIn
import Derived.Test.YtbmlopklhgladaaDoorZG1
import Derived.Sort.QuietIn
import Derived.StillTail
import Derived.StillTailTactics
import Derived.OrdersIn
import Derived.TacticsIn
import Derived.Test.YtbmlopklhgladaaDoorProg
set_option linter.unusedVariables false
set_option linter.unusedSimpArgs false
namespace Go.Proofs.YtbmlopklhgladaaDoor.Pnm
open Go.RowKit K Ian Ard

set_option maxRecDepth 20000 in
set_option maxHeartbeats 2000000 in
theorem colour_any {b o c : Nat} {v0 v1 v2 v3 : Int} (w : World) (h0 : w.cell? ⟨b, o, none⟩ = some (.int .u16 v0)) (h1 : w.cell? ⟨b, o + 1, none⟩ = some (.int .u16 v1)) (h2 : w.cell? ⟨b, o + 2, none⟩ = some (.int .u16 v2)) (h3 : w.cell? ⟨b, o + 3, none⟩ = some (.int .u16 v3)) :
    Calls Tryd.prog 50 #[.slice (some ⟨b, o, none⟩) 4 c] w fun e w' => Below w.heap.size w w' ∧ e = .returned (.agg #[.int .u16 v0, .int .u16 v1, .int .u16 v2, .int .u16 v3]) := by
  have hr : (w.alloc (.cells (colC 0 0 0 0) 45)).heap[w.heap.size]? = some (.cells (colC 0 0 0 0) 45 (0, 0)) := heap_alloc_new w _
  have hb : Below w.heap.size w (w.alloc (.cells (colC 0 0 0 0) 45)) := (Below.refl _ w).alloc (Nat.le_refl _) _
  have k0 := Lib.cell?_alloc_some (.cells (colC 0 0 0 0) 45) h0
  have k1 := Lib.cell?_alloc_some (.cells (colC 0 0 0 0) 45) h1
  have k2 := Lib.cell?_alloc_some (.cells (colC 0 0 0 0) 45) h2
  have k3 := Lib.cell?_alloc_some (.cells (colC 0 0 0 0) 45) h3
  obtain ⟨W0, hW0⟩ : ∃ W0, w.alloc (.cells (colC 0 0 0 0) 45) = W0 := ⟨_, rfl⟩
  rw [hW0] at hr hb k0 k1 k2 k3
  have R1 := Lib.hid hr
  have HB := Lib.hid hb
  clear hr hb h0 h1 h2 h3
  unfold colC at hW0
  go_enter Tryd.func50, Tryd.ntmps50
  go_upto_region 1 with (fail)
  try rw [hW0]
  clear hW0
  have HOI : Hid ((#[.int .u16 v0, .int .u16 v1, .int .u16 v2, .int .u16 v3] : Array Value).all (·.oneCell') = true) := by show _ = _; simp [Value.oneCell']
  refine wp_region_still_tail 13 (by kernel_rfl) (by kernel_rfl) ?_
  simp only [List.take_succ_cons, List.take_zero, List.drop_succ_cons, List.drop_zero]
  repeat still_step
  refine wpStill_nil ?_
  change wpList _ _ _ _ _ W0.drew
  go_wp2_with (refine wpList_store_row rfl 45 (.tmp 2) (.tmp 15) rfl w.heap.size #[.int .u16 v0, .int .u16 v1, .int .u16 v2, .int .u16 v3] rfl rfl 45 (colC 0 0 0 0) R1.out colInfo rfl HOI.out ?_)
  refine bodyPost_ret (results_cell_row rfl _ _ w.heap.size 45 _ (0, 0) _ rfl (setRow_heap _ _ _ _ _ _ R1.out) Tryd.underlying45 rfl colInfo) rfl ?_
  exact ⟨below_setRow (below_drewN HB.out 1) (Nat.le_refl _) _, rfl⟩
theorem infoCol : (Tryd.prog.info? 45).map (fun i => (i.zero, i.size, i.bytes)) = some (some (.agg #[.int .u16 0, .int .u16 0, .int .u16 0, .int .u16 0]), 4, 8) := by kernel_rfl
theorem colours_one (l : List Int) : ∀ u ∈ l.map (Value.int .u16), u.oneCell' = true := ints_oneCell .u16 l
theorem fits_any {W H : Nat} (w : World) (hW : 1 ≤ W) (hW2 : W ≤ 4096) (hH : 1 ≤ H) (hH2 : H ≤ 4096) (hp : W * H ≤ 65536) :
    Calls Tryd.prog 67 #[.int .i64 W, .int .i64 H] w fun e w' => e = .returned (.bool true) ∧ w = w' := by
  obtain ⟨mi, hmi⟩ : ∃ r : Nat, min W H = r := ⟨_, rfl⟩
  have h1 : 1 ≤ mi := by omega
  have e3 : IntKind.i64.wrap ((W : Int) * (H : Int)) = ((W * H : Nat) : Int) := by rw [Int.natCast_mul]; exact IntWalk.i64_in _ (by rw [← Int.natCast_mul]; omega)
  go_enter Tryd.func67, Tryd.ntmps67
  go_wp2
  go_ret
  have hp2 : (W : Int) * (H : Int) ≤ 65536 := by rw [← Int.natCast_mul]; omega
  exact ⟨ret1 (ebool (decide_eq_true hp2)), rfl⟩
/-- a slice of colours, by its cells -/
theorem cloneC_any {A : Option Addr} {n c : Nat} {l : List Int} (w : World) (hA : Sl w A (l.map (.int .u16))) (hl : l.length = n * 4) (hn : n ≤ 65536) (hA0 : A ≠ none) :
    Calls Tryd.prog 57 #[.slice A n c] w fun e w' => ∃ A' c', e = .returned (.slice A' n c') ∧ w'.ownsRow w.heap.size 45 4 (.slice A' n c') n (l.map (.int .u16)) ∧ Below w.heap.size w w' := by
  cases hA1 : A with
  | none => exact absurd hA1 hA0
  | some a =>
    subst hA1
    have h1 := fun w => Lib.run_eql_slice_nil (P := Tryd.prog) w 83 45 (some a) n c 0 0 Tryd.underlying83
    have HS := Lib.hid hA
    have HL := Lib.hid hl
    clear hA hl hA0
    go_enter Tryd.func57, Tryd.ntmps57
    go_wp2_with (at_builtin; refine wpList_append_sl _ rfl (.tmp 5) (.tmp 6) _ rfl w.heap.size 45 4 8 _ Tryd.underlying83 infoCol rfl (by omega) (.slice (some ⟨w.heap.size, 0, none⟩) 0 0) 0 [] rfl ?c1 (some a) n c (l.map (.int .u16)) rfl ?c2 ?c3 (colours_one _) ?c4 ?c5 ?c6 ?_)
    case c1 => exact World.ownsRow_made w #[] 0 (Nat.le_refl _) (by simp [maxLen]) rfl
    case c2 => simp [HL.out]
    case c3 => exact HS.out.alloc _
    case c4 => unfold maxLen; omega
    case c5 => omega
    case c6 => simp
    intro v' w1 hown hg _
    obtain ⟨A', c', rfl⟩ := own_form hown
    have hb : Below w.heap.size w w1 := ((Below.refl w.heap.size w).alloc (Nat.le_refl _) _).grown hg (by simp) (fun k hk => by simp [Value.ownBlock] at hk; omega)
    go_wp2
    go_ret
    exact ⟨A', c', rfl, hown, hb⟩
/-- a grid of colours, in memory that is new since a world of so many blocks -/
structure GridAt (base : Nat) (w : World) (g : Nat) (W H : Nat) (A : Option Addr) (c : Nat) (l : List Int) : Prop where
  row : w.heap[g]? = some (.cells #[.int .i64 W, .int .i64 H, .slice A (W * H) c] 110 (0, 0))
  new : base ≤ g
  own : w.ownsRow base 45 4 (.slice A (W * H) c) (W * H) (l.map (.int .u16))
theorem gridOf_any {W H n c : Nat} {A : Option Addr} {l : List Int} (w : World) (hW : 1 ≤ W) (hW2 : W ≤ 4096) (hH : 1 ≤ H) (hH2 : H ≤ 4096) (hp : W * H ≤ 65536) (hn : n = W * H) (hA : Sl w A (l.map (.int .u16))) (hl : l.length = n * 4) (hA0 : A ≠ none) :
    Calls Tryd.prog 51 #[.int .i64 W, .int .i64 H, .slice A n c] w fun e w' => Below w.heap.size w w' ∧ ∃ g A' c', e = .returned (.tuple #[.pointer (some ⟨g, 0, none⟩), .int .i64 0]) ∧ GridAt w.heap.size w' g W H A' c' l := by
  have HF := Lib.hid (fits_any w hW hW2 hH hH2 hp)
  have HC := Lib.hid (cloneC_any (c := c) w hA hl (by omega) hA0)
  have e3 : IntKind.i64.wrap ((W : Int) * (H : Int)) = ((W * H : Nat) : Int) := by rw [Int.natCast_mul]; exact IntWalk.i64_in _ (by rw [← Int.natCast_mul]; omega)
  have d1 : ((n : Int) == (W : Int) * (H : Int)) = true := by rw [← Int.natCast_mul, hn]; simp
  have HN := Lib.hid hn
  clear hW hW2 hH hH2 hp hn hA hl hA0
  go_enter Tryd.func51, Tryd.ntmps51
  go_wp2_with (first | (go_at_call 67; refine HF.out.mono ?_; rintro e w' ⟨rfl, rfl⟩) | (go_at_call 57; refine HC.out.mono ?_; rintro e w' ⟨A', c', rfl, hown, hb⟩))
  go_ret2
  have hn := HN.out
  subst hn
  exact ⟨hb.alloc hb.size _, _, A', c', rfl, ⟨heap_alloc_new _ _, hb.size, hown.alloc _⟩⟩
theorem gridH_any {g : Nat} {a b d : Value} {H : Int} (w : World) (h : w.heap[g]? = some (.cells #[a, .int .i64 H, d] 110 (0, 0))) :
    Calls Tryd.prog 56 #[.pointer (some ⟨g, 0, none⟩)] w fun e w' => e = .returned (.int .i64 H) ∧ w = w' := by
  have c1 : w.cell? ⟨g, 1, none⟩ = some (.int .i64 H) := row_cell h 1
  go_enter Tryd.func56, Tryd.ntmps56
  go_wp2
  go_ret
  exact ⟨rfl, rfl⟩
end Go.Proofs.YtbmlopklhgladaaDoor.Pnm
set_option linter.unusedVariables false
namespace Go.Proofs.YtbmlopklhgladaaDoor.Hld
open Go.RowKit K

variable {F : Fence} {n : Nat} {P : Program}
/-- what an iterator promises: it gives elements, each with what is said of it (Fx) in the world in which it is given -/
def SeqHeld {α : Type} (F : Fence) (n : Nat) (P : Program) (g : Nat) (lb : Array Value) (encs : α → Array Value) (Fx : List α → α → World → Prop) (Kp : World → World → Prop) (S : List α → Prop) (w : World) : Prop :=
  ∀ (l : Nat) (J : List α → World → Prop) (W : World), Below w.heap.size w W → (∀ s A B, J s A → Below A.heap.size A B → J s B) →
    (∀ pre x W1, J pre W1 → Fx pre x W1 → YieldAt F (n - 1) P l (encs x) W1 fun e W' => e = .returned (.bool true) ∧ J (pre ++ [x]) W' ∧ Kp W1 W') →
    J [] W → CallsIn F n P g (#[.func (.yield l) #[] #[]] ++ lb) W fun e W' => (∃ v, e = .returned v) ∧ ∃ xs, S xs ∧ J xs W'
/-- the statement 'for .. range' over it, where the body is never left early -/
theorem range_held {α : Type} {g : Operand} {ps : Array Tmp} {assign body : Code} {Q : Exit → Act → World → Prop} {a : Act} {w : World}
    (hro : F.round = none) (h1 : 1 ≤ n) {gf : Nat} {lb : Array Value} (hg : a.eval g = .func (.func gf) #[] lb) (hFg : F.fn gf) (eg : ∀ args w, (callFunc gf args).run P w = .ok (.enter gf args) w)
    {encs : α → Array Value} {Fx : List α → α → World → Prop} {Kp : World → World → Prop} {S : List α → Prop} {w0 : World} (hseq : SeqHeld F (n - 1) P gf lb encs Fx Kp S w0)
    (hKt : ∀ {A B C : World}, Kp A B → Kp B C → Kp A C) (hKb : ∀ (W : World) (l : Nat) (o o' : Obj), w.heap.size ≤ l → W.heap[l]? = some o → o.isCells = false → o.isWalk = false → Kp W (W.putObj l o'))
    (hb0 : Below w0.heap.size w0 w) (hps : ∀ x, (encs x).size = ps.size)
    (I : List α → World → Prop) (hI : OwnFrom w.heap.size I) (hFx : ∀ x, OwnFrom w.heap.size (fun pre W => Fx pre x W)) (h0 : I [] w) (a₁ : α → Act)
    (hassign : ∀ (l : Nat) (x : α) (W : World) (K : Act → World → Prop), K (a₁ x) W →
      assign.wpIn (F.inRound l) (n - 1 - 1) P (Exit.then K (fun _ _ _ => False)) { tmps := (ps.zip (encs x)).foldl (fun t (p, v) => t.setIfInBounds p v) a.tmps, defers := [] } W)
    (hbody : ∀ (l : Nat) (pre : List α) (x : α) (W : World), I pre W → Fx pre x W → body.wpIn (F.inRound l) (n - 1 - 1) P (ownPostG w.heap.size Kp I (fun _ _ _ => False) (pre ++ [x]) W) (a₁ x) W)
    (hdone : ∀ (D : Nat) (xs : List α) (W : World), w.heap.size ≤ D → S xs → I xs W → W.heap[D]? = some (.deferred (some [])) → Q .normal { a with defers := { target := .collected D, args := #[] } :: a.defers } W) :
    (Code.rangeFunc g ps assign body).wpIn F n P Q a w := by
  refine wpIn_rangeFunc ?_
  intro fn hfn
  rw [hro]
  let rec0 : LoopState → Loop := fun st => { state := st, pending := none, fn, tmps := a.tmps, params := ps, assign, body, defers := w.heap.size }
  let L : Nat := w.heap.size + 1
  have hrdy : ∀ st, (Obj.loop (rec0 st)).isCells = false := fun _ => rfl
  obtain ⟨W1, hW1⟩ : ∃ W1, (w.alloc (.deferred (some []))).alloc (.loop (rec0 .ready)) = W1 := ⟨_, rfl⟩
  have hs1 : W1.heap.size = w.heap.size + 2 := by rw [← hW1]; simp
  have hB1 : Below w.heap.size w W1 := by rw [← hW1]; exact ((Below.refl _ w).alloc (Nat.le_refl _) _).alloc (by simp) _
  have hL1 : W1.heap[L]? = some (.loop (rec0 .ready)) := by
    have := World.alloc_heap_new (w.alloc (.deferred (some []))) (.loop (rec0 .ready))
    rw [World.size_alloc] at this
    rw [← hW1]; exact this
  have hD1 : W1.heap[w.heap.size]? = some (.deferred (some [])) := by
    rw [← hW1]; exact (Below.heap_alloc _ _ _ (by simp)).trans (World.alloc_heap_new w _)
  have hI1 : I [] W1 := by rw [← hW1]; exact hI.alloc _ (hI.alloc _ h0)
  -- what is carried: the caller's own, the loop's record, the block of its deferred calls
  let J : List α → World → Prop := fun pre W => I pre W ∧ W.heap[L]? = some (.loop (rec0 .ready)) ∧ W.heap[w.heap.size]? = some (.deferred (some []))
  have hJ : ∀ s A B, J s A → Below A.heap.size A B → J s B := by
    rintro s A B ⟨i1, i2, i3⟩ hb
    refine ⟨hI s A B none i1 ⟨hb.os, hb.tape, hb.output, hb.size, fun k hk _ => hb.block k hk⟩ (fun r e => by cases e), ?_, ?_⟩
    · rw [hb.block _ (Array.getElem?_eq_some_iff.1 i2).1]; exact i2
    · rw [hb.block _ (Array.getElem?_eq_some_iff.1 i3).1]; exact i3
  refine ⟨L, [{ target := .collected w.heap.size, args := #[] }], W1, { target := .fn (.func gf) lb, args := #[.func (.yield L) #[] #[]] }, W1, gf, #[.func (.yield L) #[] #[]] ++ lb, W1, ?_, ?_, ?_, ?_, fun _ => h1, ?_⟩
  · rw [← hW1]; exact run_enterLoop_outer _ _ _ _ _
  · simp only [resolve, hg]
    simp [go_sem]
  · intro f' hf'; simp [Target.leads] at hf'; subst hf'; exact hFg
  · simp [invoke, go_sem, eg]
  refine (hseq L J W1 (hb0.trans (hB1.mono hb0.size)) hJ ?_ ⟨hI1, hL1, hD1⟩).mono ?_
  · rintro pre x W ⟨hi, hl, hd⟩ hx
    have hlt := (Array.getElem?_eq_some_iff.1 hl).1
    refine ⟨fn, _, assign, body, run_yield (P := P) (args := encs x) hl (hps x), roundIn_of_wpIn hfn (hassign _ x W _ ⟨_, run_beginRound hl rfl, ?_⟩)⟩
    have hl2 : (W.putObj L (.loop (rec0 .busy))).heap[L]? = some (.loop (rec0 .busy)) := World.putObj_heap_same hlt
    have hd2 : (W.putObj L (.loop (rec0 .busy))).heap[w.heap.size]? = some (.deferred (some [])) := (World.putObj_heap_other (by show _ ≠ w.heap.size + 1; omega)).trans hd
    have hk2 : Kp W (W.putObj L (.loop (rec0 .busy))) := hKb _ _ _ _ (Nat.le_succ _) hl rfl rfl
    refine wpIn_mono (hbody _ pre x _ (hI.putObj _ hi (Nat.le_succ _) hl rfl) ((hFx x).putObj _ hx (Nat.le_succ _) hl rfl)) ?_
    rintro e a3 W3 hp
    cases e with
    | normal =>
      obtain ⟨hk3, hkp, hi3⟩ := hp
      have hl3 := hk3.same _ _ (Nat.le_succ _) hl2 rfl
      have hd3 := hk3.same _ _ (Nat.le_refl _) hd2 rfl
      exact ⟨_, _, run_endRound (P := P) none hl3, rfl, ⟨hI.putObj _ hi3 (Nat.le_succ _) hl3 rfl, World.putObj_heap_same (Array.getElem?_eq_some_iff.1 hl3).1, (World.putObj_heap_other (by show _ ≠ w.heap.size + 1; omega)).trans hd3⟩,
        hKt (hKt hk2 hkp) (hKb _ _ _ _ (Nat.le_succ _) hl3 rfl rfl)⟩
    | ret => exact hp.2.elim
    | exit id => exact hp.2.elim
    | goto t => exact hp.2.elim
    | panic ch => exact hp.elim
    | outgrown => exact hp.elim
  · rintro e W2 ⟨⟨v, rfl⟩, xs, hS, hi, hl, hd⟩
    exact ⟨none, _, run_endLoop (P := P) hl (fun h => by cases h), hdone _ xs _ (Nat.le_refl _) hS (hI.putObj _ hi (Nat.le_succ _) hl rfl) ((World.putObj_heap_other (by show _ ≠ w.heap.size + 1; omega)).trans hd)⟩
end Go.Proofs.YtbmlopklhgladaaDoor.Hld
set_option linter.unusedVariables false
set_option linter.unusedSimpArgs false
namespace Go.Proofs.YtbmlopklhgladaaDoor.Pnm
open Go.RowKit K Ian Ard Hld Go.Shelf

attribute [local go_sem] Oper.semAt_some

/-- what a body keeps: the two boxes of the iterator -/
def KpC (Bs Bn : Nat) (W W' : World) : Prop := (∀ v, Boxed W Bs 24 v → Boxed W' Bs 24 v) ∧ (∀ v, Boxed W Bn 3 v → Boxed W' Bn 3 v)
set_option maxRecDepth 100000 in
set_option maxHeartbeats 2000000 in
theorem chunk1_held (n : Nat) (hn : 1 ≤ n) {Bs Bn b off cap N : Nat} (w : World) (hB1 : Boxed w Bs 24 (.slice (some ⟨b, off, none⟩) (4 * N) cap)) (hB2 : Boxed w Bn 3 (.int .i64 4)) (hcap : 4 * N ≤ cap) (hN : N ≤ 65536) :
    SeqHeld Fence.wide n Tryd.prog 66 #[.pointer (some ⟨Bs, 0, none⟩), .pointer (some ⟨Bn, 0, none⟩)] (fun i : Nat => #[Value.slice (some ⟨b, off + 4 * i, none⟩) 4 4]) (fun pre i _ => i = pre.length ∧ i < N) (KpC Bs Bn) (fun ys => ys.length = N) w := by
  intro l J W hW hJ hY h0
  have kB1 : Boxed W Bs 24 (.slice (some ⟨b, off, none⟩) (4 * N) cap) := (hW.block _ hB1.lt).trans hB1
  have kB2 : Boxed W Bn 3 (.int .i64 4) := (hW.block _ hB2.lt).trans hB2
  clear hB1 hB2 hW
  obtain ⟨m, hm⟩ : ∃ m, 4 * N = m := ⟨_, rfl⟩
  rw [hm] at kB1 hcap
  refine callsIn_of_wp Tryd.func66 rfl trivial ?_ rfl
  simp only [Tryd.ntmps66, List.size_toArray, List.length_cons, List.length_nil, Nat.reduceAdd, Nat.reduceSub, Array.replicate_succ, Array.replicate_zero, List.push_toArray, List.append_toArray, List.nil_append, List.cons_append]
  have HY := Lib.hid hY
  have HJ := Lib.hid hJ
  have HJ0 := Lib.hid h0
  have H1 := Lib.hid kB1
  have H2 := Lib.hid kB2
  have HM := Lib.hid hm
  clear hY hJ h0 kB1 kB2 hm
  gi_wp2
  gi_loopw [4] (fun i wr => ∃ q : Nat, q ≤ m ∧ i = .int .i64 q ∧ Hid (∃ pre : List Nat, 4 * pre.length = q ∧ J pre wr) ∧ Hid (Boxed wr Bs 24 (.slice (some ⟨b, off, none⟩) m cap)) ∧ Hid (Boxed wr Bn 3 (.int .i64 4)))
    (fun i _ => m - (intOf i).toNat)
  case atStart => exact ⟨0, Nat.zero_le _, rfl, ⟨[], rfl, HJ0.out⟩, H1, H2⟩
  case round =>
    obtain ⟨q, hq, rfl, HP, HX1, HX2⟩ := hrel
    have c1 := HX1.out.cell
    have c2 := HX2.out.cell
    by_cases hlt : q < m
    · have d1 : decide ((q : Int) < (m : Int)) = true := decide_eq_true (by omega)
      obtain ⟨pre, hpre, hJp⟩ := HP.out
      have h4 : q + 4 ≤ m := by have := HM.out; omega
      have i1 : (q : Int) ≤ (m : Int) := by omega
      have i0 : (0 : Int) ≤ (q : Int) := by omega
      have i2 : q ≤ m := by omega
      have a1 : IntKind.i64.wrap ((q : Int) + 4) = (q : Int) + 4 := IntWalk.i64_in _ (by have := HM.out; omega)
      have e4 : min (4 : Int) ((m - q : Nat) : Int) = 4 := by omega
      have HYY := Lib.hid (HY.out pre pre.length)
      have HPL := Lib.hid hpre
      have HJP := Lib.hid hJp
      clear hpre hJp
      gi_wp2
      gi_quiet (fail)
      have c3 : (wr.drewN nq).cell? ⟨Bs, 0, none⟩ = some (.slice (some ⟨b, off, none⟩) m cap) := c1
      have c4 : (wr.drewN nq).cell? ⟨Bn, 0, none⟩ = some (.int .i64 4) := c2
      have HD1 : Hid (Boxed (wr.drewN nq) Bs 24 (.slice (some ⟨b, off, none⟩) m cap)) := HX1.out
      have HD2 : Hid (Boxed (wr.drewN nq) Bn 3 (.int .i64 4)) := HX2.out
      have HJD := Lib.hid (HJ.out _ _ _ HJP.out (below_drewN (Below.refl _ wr) nq))
      obtain ⟨fn, tmps, assign, body, hy, hR⟩ := HYY.out (wr.drewN nq) HJD.out ⟨trivial, by have := HPL.out; have := HM.out; omega⟩
      rw [HPL.out] at hy
      have HR := Lib.hid hR
      clear hR c1 c2
      generalize wr.drewN nq = W2 at c3 c4 HD1 HD2 HJD hy HR ⊢
      have i3 : (q : Int) + 4 ≤ (cap : Int) := by omega
      have t1 : ((q : Int) + 4).toNat = q + 4 := by omega
      gi_wp2
      refine HR.out.mono ?_
      rintro e W3 ⟨rfl, hJ3, hK1, hK2⟩
      have HE1 := Lib.hid (hK1 _ HD1.out)
      have HE2 := Lib.hid (hK2 _ HD2.out)
      have HJ3 := Lib.hid hJ3
      have c5 := HE1.out.cell
      have c6 := HE2.out.cell
      clear hJ3 hK1 hK2 hy c3 c4
      gi_wp2
      go_roundw
      case rel => exact ⟨q + 4, h4, by go_num, ⟨_, by rw [List.length_append]; have := HPL.out; simp; omega, HJ3.out⟩, HE1, HE2⟩
      case measure => simp [intOf]; omega
    · obtain rfl : q = m := by omega
      have d1 : decide ((q : Int) < (q : Int)) = false := decide_eq_false (by omega)
      gi_wp2
      go_end0
      obtain ⟨pre, hpre, hJp⟩ := HP.out
      exact ⟨⟨_, rfl⟩, pre, by have := HM.out; omega, hJp⟩
theorem chunk_any {b off n c : Nat} (w : World) : Calls Tryd.prog 49 #[.slice (some ⟨b, off, none⟩) n c, .int .i64 4] w fun e w' => e = .returned (.func (.func 66) #[] #[.pointer (some ⟨w.heap.size, 0, none⟩), .pointer (some ⟨w.heap.size + 1, 0, none⟩)]) ∧ (w.alloc (.cells #[.slice (some ⟨b, off, none⟩) n c] 24)).alloc (.cells #[.int .i64 4] 3) = w' := by
  go_enter Tryd.func49, Tryd.ntmps49
  go_wp2
  go_ret
  exact ⟨rfl, rfl⟩
end Go.Proofs.YtbmlopklhgladaaDoor.Pnm
set_option linter.unusedVariables false
namespace Go.Proofs.YtbmlopklhgladaaDoor.Stl
open Go

theorem wide_fn (f : FuncId) : Fence.wide.fn f = True := rfl
section
variable {F : Fence} {nn : Nat} {P : Program} {ops : Array Oper} {md : Region.Mode} {w : World}

def sinkB (md : Region.Mode) (ops : Array Oper) (m n : Nat) : Bool :=
  (List.range n).all fun i => decide (i < m) || (List.range (n + 1)).any fun j => decide (i < j) && Region.waitsFor md ops j i
theorem tail_waits {m n : Nat} {listed : Array Bool} (hs : sinkB md ops m n = true) (hc : Region.chainB md ops n = true) (hn : n < ops.size) (inv : HeadInv md ops n listed) :
    ∀ (d i : Nat), n - i = d → i < n → m ≤ i → listed.getD i true = false → ∀ t, n ≤ t → t ∉ Region.ready md ops listed := by
  intro d
  induction d using Nat.strongRecOn with
  | _ d ih =>
    intro i hd hi hmi hun t ht hr
    obtain ⟨_, ot, hot, hall⟩ := mem_ready.1 hr
    have htlt : t < ops.size := (Array.getElem?_eq_some_iff.1 hot).1
    by_cases htn : t = n
    · subst htn
      have h1 := List.all_eq_true.1 hs i (List.mem_range.2 hi)
      simp only [Bool.or_eq_true, decide_eq_true_eq] at h1
      rcases h1 with h1 | h1
      · omega
      obtain ⟨j, hj, hj2⟩ := List.any_eq_true.1 h1
      simp only [Bool.and_eq_true, decide_eq_true_eq] at hj2
      obtain ⟨oj, hoj, e, he, hb, hon⟩ := Region.waitsFor_spec hj2.2
      have hjle : j ≤ t := by have := List.mem_range.1 hj; omega
      by_cases hjt : j = t
      · subst hjt
        have : oj = ot := Option.some.inj (hoj.symm.trans hot)
        subst this
        have h2 := hall e he hb
        rw [hon, getD_both hun] at h2
        cases h2
      · cases hl : listed.getD j false with
        | true =>
          have h2 := inv.closed j oj hoj hl e he hb
          rw [hon, getD_both hun] at h2
          cases h2
        | false =>
          have hjs : j < listed.size := by rw [inv.size]; omega
          exact ih (t - j) (by omega) j rfl (by omega) (by omega) (getD_in hjs hl) t (Nat.le_refl _) hr
    · have h1 := List.all_eq_true.1 hc t (List.mem_range.2 htlt)
      simp only [Bool.or_eq_true, decide_eq_true_eq] at h1
      rcases h1 with h1 | h1
      · omega
      · obtain ⟨o', ho', e, he, hb, hon⟩ := Region.waitsFor_spec h1
        have : o' = ot := Option.some.inj (ho'.symm.trans hot)
        subst this
        have h2 := hall e he hb
        rw [hon, getD_both (inv.tail (t - 1) (by omega) (by omega))] at h2
        cases h2
theorem wpIn_of_still {o : Oper} {a : Act} {K : Act → Prop} {K' : Act → World → Prop} {Q' : Exit → Act → World → Prop} (hF : F = Fence.wide) (h : ∀ a, K a → K' a w) (hh : o.still P a w K) : o.wpIn F nn P a w K' Q' := by
  subst hF
  refine ⟨fun _ _ => trivial, ?_⟩
  rw [Fence.wide_round, Oper.semAt_none]
  unfold Oper.still at hh
  generalize (execOp a.eval o).run P w = r at *
  cases r with
  | ok n w' =>
    cases n <;> simp only [Oper.stillUpon] at hh <;> simp only [Oper.uponIn]
    case enter f args =>
      obtain ⟨rfl, v, hc, hn⟩ := hh
      refine ⟨fun h => by simp [Fence.wide] at h, callsIn_wide.2 (hc.mono fun e w'' ⟨he, hw⟩ => by subst he; subst hw; exact h _ hn)⟩
    all_goals (obtain ⟨rfl, h2⟩ := hh; exact h _ h2)
  | halt x w' => simp only [Oper.stillUpon] at hh
theorem wpOpIn_of_stOp {i : Nat} {a : Act} {K : Act → Prop} {K' : Act → World → Prop} {Q' : Exit → Act → World → Prop} (hF : F = Fence.wide) (h : ∀ a, K a → K' a w) (hh : stOp P ops w i K a) : wpOpIn F nn P ops Q' i K' a w := by
  unfold stOp at hh
  unfold wpOpIn
  split
  · rename_i ho; simp only [ho] at hh; exact h _ hh
  · rename_i o ho
    simp only [ho] at hh
    split
    · rename_i hw; simp only [hw, if_true] at hh; exact wpIn_of_still hF h hh
    · rename_i hw; simp only [hw] at hh; exact ⟨fun _ _ => by subst hF; exact trivial, h _ hh⟩
theorem wpAnyIn_of_head {n g : Nat} {L : Array Bool → Act → Prop} {Q' : Exit → Act → World → Prop} (hF : F = Fence.wide) (hL : ∀ listed a, L listed a → wpAnyIn F nn P md ops Q' g listed a w) :
    ∀ (f : Nat) (listed : Array Bool) (a : Act), wpAnyL P md ops w n L f listed a → wpAnyIn F nn P md ops Q' (f + g) listed a w
  | 0, listed, a, h => by rw [Nat.zero_add]; exact hL _ _ h
  | f + 1, listed, a, h => by
    rw [show f + 1 + g = (f + g) + 1 by omega]
    exact ⟨fun h0 => absurd h0 h.1, fun i hi => wpOpIn_of_stOp hF (fun a' h' => wpAnyIn_of_head hF hL f _ a' h') (h.2 i hi).2⟩
theorem wpAnyL_first {m n i : Nat} {oi : Oper} {v : Value} {L : Array Bool → Act → Prop} (hi : ops[i]? = some oi) (hsel : ∀ (j : Nat) (o : Oper) cs b, ops[j]? = some o → o.op ≠ .select cs b)
    (hs : sinkB md ops m n = true) (hc : Region.chainB md ops n = true) (hn : n < ops.size) (hin : i < n) (hmi : m ≤ i)
    (hdone : ∀ listed a, L listed a → ∀ j ∈ Region.ready md ops listed, n ≤ j) :
    ∀ (f : Nat) (listed : Array Bool) (a : Act), HeadInv md ops n listed →
      (∀ j oj, ops[j]? = some oj → j ≠ i → listed.getD j true = false → (∀ e ∈ oj.after, Region.binds md e = true → e.on ≠ i) → oi.apart ops oj = true) →
      i ∈ Region.ready md ops listed → YieldsAt P ops w oi v a →
      wpAnyL P md ops w n L f (listed.setIfInBounds i true) (a.put oi.dst v) → wpAnyL P md ops w n L (f + 1) listed a := by
  intro f
  induction f with
  | zero =>
    intro listed a inv _ hr hy H
    have hun := (mem_ready.1 hr).1
    refine ⟨fun h => (by rw [h] at hr; cases hr), fun j hj => ?_⟩
    have hjn : j < n := by
      rcases Nat.lt_or_ge j n with h | h
      · exact h
      · exact absurd hj (tail_waits hs hc hn inv _ i rfl hin hmi hun j h)
    refine ⟨hjn, ?_⟩
    by_cases hji : j = i
    · subst hji; exact hy.stOp hi H
    · have := hdone _ _ H j (ready_mono hj hji)
      omega
  | succ f ih =>
    intro listed a inv hfree hr hy H
    have hun := (mem_ready.1 hr).1
    refine ⟨fun h => (by rw [h] at hr; cases hr), fun j hj => ?_⟩
    have hjn : j < n := by
      rcases Nat.lt_or_ge j n with h | h
      · exact h
      · exact absurd hj (tail_waits hs hc hn inv _ i rfl hin hmi hun j h)
    refine ⟨hjn, ?_⟩
    by_cases hji : j = i
    · subst hji; exact hy.stOp hi H
    · have h1 := (H.2 j (ready_mono hj hji)).2
      obtain ⟨hjun, oj, hoj, hall⟩ := mem_ready.1 hj
      have hnot : ∀ e ∈ oj.after, Region.binds md e = true → e.on ≠ i := fun e he hb heq => by
        have h1 := hall e he hb
        rw [heq, getD_both hun] at h1
        cases h1
      have h2 := stOp_put hoj (hfree j oj hoj hji hjun hnot) (fun cs b => hsel i oi cs b hi) (fun cs b => hsel j oj cs b hoj) hy h1
      have hfree' : ∀ k ok, ops[k]? = some ok → k ≠ i → (listed.setIfInBounds j true).getD k true = false →
          (∀ e ∈ ok.after, Region.binds md e = true → e.on ≠ i) → oi.apart ops ok = true := fun k ok hk hki hun hno => by
        refine hfree k ok hk hki ?_ hno
        by_cases hjk : j = k
        · subst hjk; exact hjun
        · rw [getD_set_ne true hjk] at hun; exact hun
      refine stOp_mono (fun a' h3 => ih (listed.setIfInBounds j true) a' (inv.set hj hjn) hfree' (ready_mono hr (Ne.symm hji)) h3.1 ?_) h2
      rw [Array.setIfInBounds_comm _ _ hji]
      exact h3.2
theorem wpAnyIn_of_seq {Q' : Exit → Act → World → Prop} : ∀ (l : List Oper) (k : Nat) (listed : Array Bool) (a : Act) (w : World), (∀ j, l[j]? = ops[k + j]?) →
    Region.seqB md ops l.length k listed = true → wpListIn F nn P ops Q' l a w → wpAnyIn F nn P md ops Q' l.length listed a w
  | [], _, _, _, _, _, hB, h => ⟨by simpa [Region.seqB] using hB, h⟩
  | o :: l, k, listed, a, w, hl, hB, h => by
    have h0 : ops[k]? = some o := by simpa using (hl 0).symm
    simp only [List.length_cons, Region.seqB, Bool.and_eq_true, decide_eq_true_eq] at hB
    refine ⟨fun h1 => (by rw [hB.1] at h1; cases h1), fun i hi => ?_⟩
    rw [hB.1] at hi
    have hik : i = k := by simpa using hi
    subst hik
    have hw : wpOpIn F nn P ops Q' i (wpListIn F nn P ops Q' l) a w := by unfold wpOpIn; simp only [h0]; exact h
    exact wpOpIn_mono (fun a' w' h' => wpAnyIn_of_seq l (i + 1) _ a' w' (fun j => by have := hl (j + 1); simpa [Nat.add_assoc, Nat.add_comm 1 j] using this) hB.2 h') hw
def lexTailB (md : Region.Mode) (ops : Array Oper) (m n : Nat) (listed : Array Bool) : Bool :=
  Region.noSelect ops && decide (n < ops.size) && sinkB md ops m n && Region.chainB md ops n && Region.lexHead md ops (ops.size - n) (n - m) m listed
def invB (md : Region.Mode) (ops : Array Oper) (n : Nat) (listed : Array Bool) : Bool :=
  decide (listed.size = ops.size) && (List.range ops.size).all (fun j => match ops[j]? with
    | some oj => !(listed.getD j false) || oj.after.all (fun e => !(Region.binds md e) || listed.getD e.on false)
    | none => true) && (List.range ops.size).all (fun t => decide (t < n) || !(listed.getD t true))
theorem inv_of {n : Nat} {listed : Array Bool} (h : invB md ops n listed = true) : HeadInv md ops n listed := by
  simp only [invB, Bool.and_eq_true, decide_eq_true_eq] at h
  obtain ⟨⟨h1, h2⟩, h3⟩ := h
  refine ⟨h1, fun j oj hj hl e he hb => ?_, fun t ht hts => ?_⟩
  · have := List.all_eq_true.1 h2 j (List.mem_range.2 (Array.getElem?_eq_some_iff.1 hj).1)
    rw [hj] at this
    simp only [hl, Bool.not_true, Bool.false_or] at this
    have := (Array.all_eq_true'.1 this) e he
    simpa [hb] using this
  · have := List.all_eq_true.1 h3 t (List.mem_range.2 hts)
    simp only [Bool.or_eq_true, decide_eq_true_eq, Bool.not_eq_true'] at this
    rcases this with h | h
    · omega
    · exact h
theorem wpAnyL_lex {m n g : Nat} {Lq : Act → Prop} (hsel : Region.noSelect ops = true) (hs : sinkB md ops m n = true) (hc : Region.chainB md ops n = true) (hn : n < ops.size) :
    ∀ (l : List Oper) (k : Nat) (listed : Array Bool) (a : Act), (∀ j, j < l.length → l[j]? = ops[k + j]?) → k + l.length = n → m ≤ k → HeadInv md ops n listed →
    Region.lexHead md ops g l.length k listed = true → wpStill P ops w Lq l a →
    wpAnyL P md ops w n (fun listed' a' => Region.seqB md ops g n listed' = true ∧ Lq a') l.length listed a
  | [], k, listed, a, _, hk, _, _, hB, h => by
    have : k = n := by simpa using hk
    subst this
    exact ⟨by simpa [Region.lexHead] using hB, h⟩
  | o :: l, k, listed, a, hl, hk, hmk, inv, hB, h => by
    have h0 : ops[k]? = some o := by simpa using (hl 0 (by simp)).symm
    simp only [List.length_cons, Region.lexHead, Bool.and_eq_true] at hB
    obtain ⟨⟨hr, hf⟩, hB'⟩ := hB
    have hkn : k < n := by simp only [List.length_cons] at hk; omega
    have hr' : k ∈ Region.ready md ops listed := by simpa using hr
    have hst : stOp P ops w k (wpStill P ops w Lq l) a := by unfold stOp; simp only [h0]; exact h
    obtain ⟨v, hy, hK⟩ := yieldsAt_of_stOp h0 hst
    exact wpAnyL_first h0 (Region.noSelect_spec hsel) hs hc hn hkn hmk (fun listed' a' hL => seqB_ready hL.1) l.length listed a inv (Region.free_spec h0 hf) hr' hy
      (wpAnyL_lex hsel hs hc hn l (k + 1) _ _ (fun j hj => by have := hl (j + 1) (by simp; omega); simpa [Nat.add_assoc, Nat.add_comm 1 j] using this) (by simp only [List.length_cons] at hk; omega) (by omega) (inv.set hr' hkn) hB' hK)
/-- from where m operations have been taken -/
theorem wpAnyIn_still_tail {Q : Exit → Act → World → Prop} {a : Act} {l : List Oper} {listed : Array Bool} (m n fuel : Nat) (hF : F = Fence.wide) (hops : ops = l.toArray) (hfu : fuel = ops.size - m) (hmn : m ≤ n) (hB : lexTailB md ops m n listed = true) (hI : invB md ops n listed = true)
    (h : wpStill P ops w (fun a' => wpListIn F nn P ops Q (l.drop n) a' w) ((l.take n).drop m) a) : wpAnyIn F nn P md ops Q fuel listed a w := by
  subst hops
  simp only [lexTailB, Bool.and_eq_true, decide_eq_true_eq] at hB
  obtain ⟨⟨⟨⟨hsel, hn⟩, hs⟩, hc⟩, hlex⟩ := hB
  have hn' : n < l.length := by simpa using hn
  have htl : ((l.take n).drop m).length = n - m := by simp; omega
  have hdl : (l.drop n).length = l.toArray.size - n := by simp
  have H := wpAnyL_lex (g := l.toArray.size - n) hsel hs hc hn ((l.take n).drop m) m _ a (fun j hj => by
    rw [htl] at hj
    rw [List.getElem?_drop, List.getElem?_take, if_pos (by omega)]; simp) (by rw [htl]; omega) (Nat.le_refl _) (inv_of hI) (by rw [htl]; exact hlex) h
  have := wpAnyIn_of_head (F := F) (nn := nn) (Q' := Q) (g := l.toArray.size - n) hF (fun listed a' hL => by
    have := wpAnyIn_of_seq (F := F) (nn := nn) (P := P) (md := md) (Q' := Q) (l.drop n) n listed a' w (fun j => by simp [List.getElem?_drop]) (by rw [hdl]; exact hL.1) hL.2
    rwa [hdl] at this) _ _ _ H
  rw [htl] at this
  rw [hfu, show l.toArray.size - m = n - m + (l.toArray.size - n) by have := hn; omega]
  exact this
end
/-- what is walked without a fence serves inside the fence that lets all in -/
theorem wpIn_of_wp {P : Program} {c : Code} {Q : Exit → Act → World → Prop} {a : Act} {w : World} {n : Nat} (h : c.wp P Q a w) : c.wpIn Fence.wide n P Q a w := by
  intro b k cs hro hb hr
  obtain ⟨e, a', w', hq, harr⟩ := h b k cs
  have hro' : b.roundOf = none := hro
  have hat : ∀ a k, b.atR a k = b.at a k := fun a k => Frame.atR_of_none hro' a k
  refine ⟨e, a', w', hq, ?_⟩
  rw [hat]
  cases e with
  | normal => show StepsIn _ _ _ _; rw [hat]; exact stepsIn_wide.2 harr
  | exit id => exact ⟨fun k' hk => by rw [hat]; exact stepsIn_wide.2 (harr k' hk), fun hs => by rw [hro'] at hs; cases hs⟩
  | goto l => exact ⟨fun k' hk => by rw [hat]; exact stepsIn_wide.2 (harr k' hk), fun hs => by rw [hro'] at hs; cases hs⟩
  | ret => exact ⟨fun _ => by obtain ⟨todo, hs⟩ := harr; exact ⟨todo, by rw [hat]; exact stepsIn_wide.2 hs⟩, fun hs => by rw [hro'] at hs; cases hs⟩
  | panic ch => obtain ⟨todo, hs⟩ := harr; exact ⟨todo, by rw [hat]; exact stepsIn_wide.2 hs⟩
  | outgrown => exact harr
end Go.Proofs.YtbmlopklhgladaaDoor.Stl
