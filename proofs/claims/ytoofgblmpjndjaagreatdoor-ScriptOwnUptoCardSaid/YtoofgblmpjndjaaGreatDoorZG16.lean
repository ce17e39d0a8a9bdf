/-
  Texts of this claim, joined by program (WrdA, WrdB, WrdC, WrdD, PrsA). A range over an iterator that makes memory of its own between its rounds: the rounds' blocks are a set M; whatever is not in M lies as it lay behind a round. Nobody leaves the loop early.
-/
import Derived.RangeFuncBox
import Derived.RangeFuncLeaves
import Derived.Shelf.Abstract
import Derived.OwnWalkIn
import Derived.TacticsInMore
import Derived.LoopNIn
import Derived.LoopIn
import Derived.Test.YtoofgblmpjndjaaGreatDoorZG2
import Derived.Test.YtoofgblmpjndjaaGreatDoorZG4
import Derived.Maps.AppendAt
import Derived.Test.YtoofgblmpjndjaaGreatDoorZG10
import Derived.Test.YtoofgblmpjndjaaGreatDoorZG9
import Derived.Test.YtoofgblmpjndjaaGreatDoorZG24
import Derived.Test.YtoofgblmpjndjaaGreatDoorZG15
import Derived.Test.YtoofgblmpjndjaaGreatDoorZG23
import Derived.Shelf.GgClosure.Gives
set_option linter.unusedVariables false
set_option linter.unusedSimpArgs false
namespace Go.Proofs.YtoofgblmpjndjaaGreatDoor.Scr
open Go.RowKit K Go.Lib

def Later (M : Nat → Prop) (W : World) : Nat → Prop := fun b => M b ∨ W.heap.size ≤ b
def postB {α : Type} (I : List α → (Nat → Prop) → World → Prop) (M : Nat → Prop) (xs : List α) (W : World) : Exit → Act → World → Prop
 | .normal, _, W' => KeepsOthers W W' ∧ (∀ b, b < W.heap.size → ¬ M b → W'.heap[b]? = W.heap[b]?) ∧ I xs (Later M W) W'
 | _, _, _ => False
def SeqB {α : Type} (F : Fence) (n : Nat) (P : Program) (g : Nat) (lb : Array Value) (encs : α → Array Value) (zs : List α) (w : World) : Prop :=
 ∀ (l : Nat) (J : List α → (Nat → Prop) → World → Prop) (W : World), Below w.heap.size w W →
  (∀ s M A B, J s M A → Below A.heap.size A B → J s M B) →
  (∀ pre x M W1, J pre M W1 → pre.length < zs.length → YieldAt F (n - 1) P l (encs x) W1 fun e W' =>
   e = .returned (.bool true) ∧ J (pre ++ [x]) (Later M W1) W' ∧ W1.heap.size ≤ W'.heap.size ∧ ∀ b, b < W1.heap.size → ¬ M b → W'.heap[b]? = W1.heap[b]?) →
  J [] (fun b => b < W.heap.size) W →
  CallsIn F n P g (#[.func (.yield l) #[] #[]] ++ lb) W fun e W' => (∃ v, e = .returned v) ∧ ∃ M, J zs M W'
variable {F : Fence} {n : Nat} {P : Program}
theorem rangeB {α : Type} {g : Operand} {ps : Array Tmp} {assign body : Code} {Q : Exit → Act → World → Prop} {a : Act} {w : World}
  (hro : F.round = none) (h1 : 1 ≤ n) {gf : Nat} {lb : Array Value} (hg : a.eval g = .func (.func gf) #[] lb) (hFg : F.fn gf) (eg : ∀ args w, (callFunc gf args).run P w = .ok (.enter gf args) w)
  {encs : α → Array Value} {zs : List α} (hseq : SeqB F (n - 1) P gf lb encs zs w) (hps : ∀ x, (encs x).size = ps.size)
  (I : List α → (Nat → Prop) → World → Prop) (hI1 : ∀ s M A B, I s M A → Below A.heap.size A B → I s M B)
  (hI2 : ∀ (s : List α) (M : Nat → Prop) (W : World) (l : Nat) (o o' : Obj), I s M W → w.heap.size ≤ l → W.heap[l]? = some o → o.isCells = false → I s M (W.putObj l o'))
  (h0 : ∀ M, (∀ b, b < w.heap.size → M b) → I [] M w) (a₁ : α → Act)
  (hassign : ∀ (l : Nat) (x : α) (W : World) (K : Act → World → Prop), K (a₁ x) W →
   assign.wpIn (F.inRound l) (n - 1 - 1) P (Exit.then K (fun _ _ _ => False)) { tmps := (ps.zip (encs x)).foldl (fun t (p, v) => t.setIfInBounds p v) a.tmps, defers := [] } W)
  (hbody : ∀ (l : Nat) (pre : List α) (x : α) (M : Nat → Prop) (W : World), I pre M W → pre.length < zs.length → body.wpIn (F.inRound l) (n - 1 - 1) P (postB I M (pre ++ [x]) W) (a₁ x) W)
  (hdone : ∀ (D : Nat) (M : Nat → Prop) (W : World), w.heap.size ≤ D → I zs M W → W.heap[D]? = some (.deferred (some [])) → Q .normal { a with defers := { target := .collected D, args := #[] } :: a.defers } W) :
  (Code.rangeFunc g ps assign body).wpIn F n P Q a w := by
 refine wpIn_rangeFunc ?_
 intro fn hfn
 rw [hro]
 obtain ⟨rc, hrc⟩ : ∃ rc : LoopState → Option Code → Loop, rc = fun st pe => { state := st, pending := pe, fn, tmps := a.tmps, params := ps, assign, body, defers := w.heap.size } := ⟨_, rfl⟩
 obtain ⟨W1, hW1⟩ : ∃ W1, (w.alloc (.deferred (some []))).alloc (.loop (rc .ready none)) = W1 := ⟨_, rfl⟩
 have hL1 : W1.heap[w.heap.size + 1]? = some (.loop (rc .ready none)) := by
  rw [← hW1]
  have := World.alloc_heap_new (w.alloc (.deferred (some []))) (.loop (rc .ready none))
  rwa [World.size_alloc] at this
 have hK1 : W1.heap[w.heap.size]? = some (.deferred (some [])) := by
  rw [← hW1]
  exact (Below.heap_alloc _ _ _ (by simp)).trans (World.alloc_heap_new w _)
 have hb1 : Below w.heap.size w W1 := by
  rw [← hW1]
  exact ((Below.refl _ w).alloc (Nat.le_refl _) _).alloc (by simp) _
 have hs1 : w.heap.size + 1 < W1.heap.size := (Array.getElem?_eq_some_iff.1 hL1).1
 refine ⟨w.heap.size + 1, [{ target := .collected w.heap.size, args := #[] }], W1, { target := .fn (.func gf) lb, args := #[.func (.yield (w.heap.size + 1)) #[] #[]] }, W1, gf,
  #[.func (.yield (w.heap.size + 1)) #[] #[]] ++ lb, W1, ?_, ?_, ?_, ?_, fun _ => h1, ?_⟩
 ·rw [← hW1, hrc]; exact run_enterLoop_outer _ _ _ _ _
 ·simp only [resolve, hg]
  simp [go_sem]
 ·intro f' hf'; simp [Target.leads] at hf'; subst hf'; exact hFg
 ·simp [invoke, go_sem, eg]
 ·refine (hseq (w.heap.size + 1) (fun pre M W => I pre M W ∧ (∀ b, b < W1.heap.size → M b) ∧ W.heap[w.heap.size + 1]? = some (.loop (rc .ready none)) ∧ W.heap[w.heap.size]? = some (.deferred (some []))) W1 hb1 ?_ ?_
   ⟨hI1 _ _ _ _ (h0 _ (fun b hb => Nat.lt_of_lt_of_le hb hb1.size)) hb1, fun _ h => h, hL1, hK1⟩).mono ?_
  ·rintro s M A B ⟨h2, h3, h4, h5⟩ hb
   exact ⟨hI1 _ _ _ _ h2 hb, h3, (hb.block _ (Array.getElem?_eq_some_iff.1 h4).1).trans h4, (hb.block _ (Array.getElem?_eq_some_iff.1 h5).1).trans h5⟩
  ·rintro pre x M W ⟨hi, hM, hl, hk⟩ hlen
   have hlt : w.heap.size + 1 < W.heap.size := (Array.getElem?_eq_some_iff.1 hl).1
   have hy := run_yield (P := P) (args := encs x) hl (by rw [hrc]; exact hps x)
   rw [hrc] at hy
   refine ⟨fn, _, assign, body, hy, roundIn_of_wpIn hfn (hassign _ x W _ ⟨_, run_beginRound hl (by rw [hrc]), ?_⟩)⟩
   obtain ⟨Wb, hWb⟩ : ∃ Wb, W.putObj (w.heap.size + 1) (.loop { rc .ready none with state := .busy }) = Wb := ⟨_, rfl⟩
   have hl2 : Wb.heap[w.heap.size + 1]? = some (.loop { rc .ready none with state := .busy }) := by rw [← hWb]; exact World.putObj_heap_same hlt
   have hk2 : Wb.heap[w.heap.size]? = some (.deferred (some [])) := by rw [← hWb]; exact (World.putObj_heap_other (by omega)).trans hk
   have hsz2 : Wb.heap.size = W.heap.size := by rw [← hWb]; simp
   have hi2 : I pre M Wb := by rw [← hWb]; exact hI2 _ _ _ _ _ _ hi (by omega) hl rfl
   rw [hWb]
   refine wpIn_mono (hbody _ pre x M _ hi2 hlen) ?_
   rintro e a3 W3 hp
   cases e with
   | normal =>
    obtain ⟨hk3, hf3, hi3⟩ := hp
    have hl3 := hk3.same _ _ hl2 rfl
    have hk4 := hk3.same _ _ hk2 rfl
    have hlt3 : w.heap.size + 1 < W3.heap.size := (Array.getElem?_eq_some_iff.1 hl3).1
    have hr := run_endRound (P := P) none hl3
    have hL : Later M Wb = Later M W := by unfold Later; rw [hsz2]
    rw [hL] at hi3
    rw [hrc] at hr hl3 ⊢
    refine ⟨_, _, hr, rfl, ⟨hI2 _ _ _ _ _ _ hi3 (by omega) hl3 rfl, fun b hb => .inl (hM b hb), World.putObj_heap_same hlt3, (World.putObj_heap_other (by omega)).trans hk4⟩, ?_, ?_⟩
    ·have := hk3.size
     simp
     omega
    ·intro b hb hnm
     have hne : b ≠ w.heap.size + 1 := fun e => hnm (by rw [e]; exact hM _ hs1)
     rw [World.putObj_heap_other hne, hf3 b (by omega) hnm, ← hWb, World.putObj_heap_other hne]
   | ret => exact hp.elim
   | exit id => exact hp.elim
   | goto t => exact hp.elim
   | panic ch => exact hp.elim
   | outgrown => exact hp.elim
  ·rintro e W2 ⟨⟨v, rfl⟩, M, hi, hM, hl, hk⟩
   refine ⟨none, _, by have := run_endLoop (P := P) hl (by rw [hrc]; simp); rw [hrc] at this; exact this, hdone _ M _ (Nat.le_refl _) (hI2 _ _ _ _ _ _ hi (by omega) hl rfl) ((World.putObj_heap_other (by omega)).trans hk)⟩
end Go.Proofs.YtoofgblmpjndjaaGreatDoor.Scr
set_option linter.unusedVariables false
set_option linter.unusedSimpArgs false
namespace Go.Proofs.YtoofgblmpjndjaaGreatDoor.Scr
open Go.RowKit K Go.Lib

attribute [local go_sem] Oper.semAt_some

theorem wpListIn_append_at {F : Fence} {n : Nat} {P : Program} (w : World) {ops : Array Oper} {rest : List Oper} {o : Oper} {a : Act} {Q : Exit → Act → World → Prop}
  (hg : o.guard = none) (s x : Operand) (t : TypeId) (hop : o.op = Op.call { callee := Callee.builtin Builtin.append, args := #[s, x], argTypes := #[t, t] })
  (base : Nat) (e : TypeId) (i : TypeInfo) (z : Value) (size bytes : Nat) (h1 : P.underlying t = some (.slice e)) (h2 : P.info? e = some i) (h3 : i.zero = some z) (h4 : i.size = size) (h5 : i.bytes = bytes) (h6 : z.cells.size = size) (h7 : 0 < size)
  (v : Value) (k : Nat) (xs : List Value) (hs : a.eval s = v) (hown : w.ownsRow base e size v k xs) (ad : Addr) (m c : Nat) (news : List Value) (hx : a.eval x = .slice (some ad) m c) (hn : news.length = m * size)
  (hc : ∀ j u, news[j]? = some u → w.cell? (ad.add j) = some u) (h1c : ∀ u ∈ news, u.oneCell' = true) (b1 : k + m ≤ maxLen) (b2 : (k + m) * bytes ≤ 140737488355328) (b3 : base ≤ w.heap.size)
  (hK : ∀ v' w', w'.ownsRow base e size v' (k + m) (xs ++ news) → w.grownBy w' v.ownBlock → (v'.ownBlock = v.ownBlock ∨ v'.ownBlock = some w.heap.size) → wpListIn F n P ops Q rest (a.put o.dst v') w') :
  wpListIn F n P ops Q (o :: rest) a w := by
 refine wpListIn_plain hg fun K hK' => ?_
 obtain ⟨v', w', hrun, r1, r2, -, r4⟩ := run_append_own_at (P := P) w base t o.type e i z size bytes h1 h2 h3 h4 h5 h6 h7 v k xs hown ad m c news hn hc h1c b1 b2 b3
 unfold Oper.wpIn
 refine ⟨by simp [Oper.about, hop, resolve, Target.leads, Sem.run_pure], ?_⟩
 rw [Oper.semAt_plain F _ _ (by rw [hop]; intro c hc'; cases hc')]
 simp [execOp, hop, resolve, invoke, builtin, hs, hx, hrun, Result.andThen]
 exact hK' _ _ (hK v' w' r1 r2 r4)
theorem SeqB.later {α : Type} {F : Fence} {n : Nat} {P : Program} {g : Nat} {lb : Array Value} {encs : α → Array Value} {zs : List α} {w w' : World} (h : SeqB F n P g lb encs zs w) (hb : Below w.heap.size w w') : SeqB F n P g lb encs zs w' :=
 fun l J W hW hJ hY h0 => h l J W (hb.trans (hW.mono hb.size)) hJ hY h0
def ColI (w : World) (pre : List Tx) (M : Nat → Prop) (W : World) : Prop :=
 ∃ v, Boxed W w.heap.size 34 v ∧ W.ownsRow w.heap.size 9 1 v pre.length (pre.map vS) ∧ M w.heap.size ∧ (∀ g, v.ownBlock = some g → M g) ∧ Below w.heap.size w W
set_option maxRecDepth 100000 in
set_option maxHeartbeats 2000000 in
theorem apSeq_texts (F : Fence) (n : Nat) (h3 : F.fn 39) (hro : F.round = none) (hn : 3 ≤ n) (g : Nat) (lb : Array Value) (hFg : F.fn g) (eg : ∀ args w, (callFunc g args).run Tryz.prog w = .ok (.enter g args) w) (zs : List Tx) (hlen : zs.length ≤ 8796093022000) (w : World)
  (hseq : SeqB F (n - 1) Tryz.prog g lb (fun x : Tx => #[vS x]) zs w) :
  CallsIn F n Tryz.prog 39 #[.slice none 0 0, .func (.func g) #[] lb] w fun e W' => ∃ v, e = .returned v ∧ W'.ownsRow w.heap.size 9 1 v zs.length (zs.map vS) ∧ Below w.heap.size w W' := by
 have h1 : 1 ≤ n := by omega
 obtain ⟨i0, hi, hz0, hz1, hz2⟩ := info_parts infoStr
 refine callsIn_of_wp_marks Tryz.func39 rfl h3 ?_ hro
 simp only [Tryz.ntmps39, List.size_toArray, List.length_cons, List.length_nil, Nat.reduceAdd, Nat.reduceSub, Array.replicate_succ, Array.replicate_zero, List.push_toArray, List.append_toArray, List.nil_append, List.cons_append]
 gi_wp2
 have bO := Boxed.new w 34 (.slice none 0 0)
 have hB0 : Below w.heap.size w (w.alloc (.cells #[.slice none 0 0] 34)) := (Below.refl _ w).alloc (Nat.le_refl _) _
 refine rangeB hro h1 (gf := g) (lb := lb) rfl hFg eg (hseq.later hB0) (fun _ => rfl) (ColI w) ?st1 ?st2 ?start
  (fun x => { tmps := #[.slice none 0 0, .func (.func g) #[] lb, .pointer (some ⟨w.heap.size, 0, none⟩), undef, .slice none 0 0, vS x, .func (.func g) #[] lb, vS x, undef, undef, undef, undef, undef], defers := [] }) ?assign ?body ?done
 case st1 =>
  rintro s M A B ⟨v, h2, h3, h4, h5, h6⟩ hb
  exact ⟨v, (hb.block _ h2.lt).trans h2, own_below h3 hb, h4, h5, h6.trans (hb.mono h6.size)⟩
 case st2 =>
  rintro s M W l o o' ⟨v, h2, h3, h4, h5, h6⟩ hl ho hc
  have hl2 : w.heap.size < l := by simp at hl; omega
  exact ⟨v, (World.putObj_heap_other (by omega)).trans h2, ownsRow_putObj h3 _ ho hc, h4, h5, h6.grown (grownBy_putObj' W l o') h6.size (fun k e => by injection e with e; omega)⟩
 case start =>
  intro M hM
  exact ⟨_, bO, World.ownsRow_nil _ _ _ _, hM _ (by simp), fun g hg => by simp [Value.ownBlock] at hg, hB0⟩
 case assign =>
  intro l x W K hK
  gi_wp2
  exact hK
 case body =>
  rintro l pre x M W ⟨v, hv, hrow, hMO, hMg, hB⟩ hlt
  have hc := hv.cell
  obtain ⟨bx, hbx⟩ : ∃ z, ba x = z := ⟨_, rfl⟩
  have HZ := Lib.hid hbx
  rw [show vS x = Value.string bx from by rw [← hbx]; rfl]
  clear hbx
  gi_wp2_with (gi_at_builtin; refine wpListIn_append_at _ rfl _ _ 34 rfl w.heap.size 9 i0 (.string ⟨#[]⟩) 1 16 Tryz.underlying34 hi hz0 hz1 hz2 rfl (by decide) _ _ _ rfl (hrow.alloc _) ⟨W.heap.size, 0, none⟩ 1 1 [.string bx] rfl rfl (cell_one_new _ _ _) (by simp [Value.oneCell']) (by unfold maxLen; omega) (by omega) (by have := hB.size; simp; omega) ?_; intro v' w1 hown' hgrow h3'; obtain ⟨g', cap', rfl⟩ := ownsRow_succ hown'; obtain ⟨hv1, hv2, hr2, hk2, hb2⟩ := hv.appended (by decide) hrow hB.size (Nat.le_refl _) hown' hgrow; have hc1 := hv1.cell; have hf1 := hv1.frozen)
  refine ⟨hk2, ?_, _, hv2, ?_, .inl hMO, ?_, hB.trans hb2⟩
  ·intro b hb hnm
   have hne : b ≠ w.heap.size := fun e => hnm (by rw [e]; exact hMO)
   refine (heap_setCell_other w1 ⟨w.heap.size, 0, none⟩ b _ (by exact hne)).trans ?_
   refine (hgrow.block b (by simp; omega) (fun e => hnm (hMg b e.symm))).trans ?_
   exact Below.heap_alloc W _ b hb
  ·rw [List.length_append, List.map_append]
   show World.ownsRow _ _ _ _ _ _ (pre.map vS ++ [.string (ba x)])
   rw [HZ.out]
   exact hr2
  ·intro g hg
   have hg' : g' = g := by simpa [Value.ownBlock] using hg
   subst hg'
   have h4 : (Value.slice (some ⟨g', 0, none⟩) (pre.length + 1) cap').ownBlock = v.ownBlock ∨ (Value.slice (some ⟨g', 0, none⟩) (pre.length + 1) cap').ownBlock = some (W.alloc (.cells #[.string bx] 9)).heap.size := h3'
   clear h3'
   rcases h4 with h3' | h3'
   ·exact .inl (hMg _ (by rw [← h3']; rfl))
   ·right
    have : g' = (W.alloc (.cells #[.string bx] 9)).heap.size := by injection h3' with h3'
    rw [World.size_alloc] at this
    omega
 case done =>
  rintro D M W hD ⟨v, hv, hrow, -, -, hB⟩ hK
  have hc := hv.cell
  gi_wp2
  refine ⟨by simp, .inl ⟨_, _, rfl, run_takeDeferred hK, ?_⟩⟩
  exact ⟨_, results_tmp rfl _ _ _, v, rfl, ownsRow_putObj hrow _ hK rfl, hB.trans (belowK_b (w := w) (Nat.le_refl _) W D _ _ (by simp at hD; omega) hK rfl rfl)⟩
theorem collect_texts {g : Nat} {lb : Array Value} {zs : List Tx} (w : World) (eg : ∀ args w, (callFunc g args).run Tryz.prog w = .ok (.enter g args) w) (hlen : zs.length ≤ 8796093022000) (hseq : SeqB Fence.wide 5 Tryz.prog g lb (fun x : Tx => #[vS x]) zs w) :
  Calls Tryz.prog 21 #[.func (.func g) #[] lb] w fun e W' => ∃ v, e = .returned v ∧ W'.ownsRow w.heap.size 9 1 v zs.length (zs.map vS) ∧ Below w.heap.size w W' := by
 have H := Lib.hid (callsIn_wide.1 (apSeq_texts Fence.wide 6 trivial rfl (by omega) g lb trivial eg zs hlen w hseq))
 clear hlen hseq
 go_enter Tryz.func21, Tryz.ntmps21
 go_wp2_with (go_at_call 39; refine H.out.mono ?_; rintro e w' ⟨v, rfl, hrow, hb⟩)
 go_ret
 exact ⟨v, rfl, hrow, hb⟩
end Go.Proofs.YtoofgblmpjndjaaGreatDoor.Scr
set_option linter.unusedVariables false
set_option linter.unusedSimpArgs false
namespace Go.Proofs.YtoofgblmpjndjaaGreatDoor.Scr
open Go.RowKit K Go.Lib Go.Shelf

attribute [local go_sem] Oper.semAt_some

theorem blank_any (x : Nat) (w : World) : Calls Tryz.prog 42 #[encR x] w fun e w' => e = .returned (.bool (blR x)) ∧ w' = w := by
 obtain ⟨r, hr⟩ : ∃ r, blR x = r := ⟨_, rfl⟩
 rw [hr]
 have HR := Lib.hid hr
 clear hr
 unfold encR
 by_cases h1 : (x : Int) = 32
 ·have t1 : ((x : Int) == 32) = true := by simpa using h1
  have HE : Hid (r = true) := by show _ = _; rw [← HR.out]; unfold blR; simp; omega
  clear h1
  go_enter Tryz.func42, Tryz.ntmps42
  go_wp2
  go_ret
  exact ⟨by rw [HE.out]; rfl, rfl⟩
 have t1 : ((x : Int) == 32) = false := by simpa using h1
 by_cases h2 : (x : Int) = 9
 ·have t2 : ((x : Int) == 9) = true := by simpa using h2
  have HE : Hid (r = true) := by show _ = _; rw [← HR.out]; unfold blR; simp; omega
  clear h1 h2
  go_enter Tryz.func42, Tryz.ntmps42
  go_wp2
  go_ret
  exact ⟨by rw [HE.out]; rfl, rfl⟩
 have t2 : ((x : Int) == 9) = false := by simpa using h2
 obtain ⟨z, hz⟩ : ∃ z, ((x : Int) == 13) = z := ⟨_, rfl⟩
 have HE : Hid (r = z) := by
  show _ = _
  rw [← HR.out, ← hz]
  unfold blR
  by_cases h3 : (x : Int) = 13
  ·have : x = 13 := by omega
   subst this
   rfl
  ·have e3 : ((x : Int) == 13) = false := by simpa using h3
   rw [e3]
   simp
   omega
 clear h1 h2
 go_enter Tryz.func42, Tryz.ntmps42
 go_wp2
 go_ret
 exact ⟨by rw [HE.out]; rfl, rfl⟩
theorem clone_any (s : ByteArray) (w : World) (hs : s.size ≤ 281474976710656) : Calls Tryz.prog 43 #[.string s] w fun e w' => e = .returned (.string s) ∧ Below w.heap.size w w' := by
 have H := Lib.hid (Scs.stringslite_Clone s w hs)
 clear hs
 go_enter Tryz.func43, Tryz.ntmps43
 go_wp2_with (go_at_call 70; refine H.out.mono ?_; rintro e w' ⟨rfl, hb⟩; have HB := Lib.hid hb; clear hb)
 go_ret
 exact ⟨rfl, HB.out⟩
theorem fields_ne : ∀ (t cur : Tx), ∀ f ∈ fieldsM t cur, f ≠ []
 | [], cur, f, hf => by
  unfold fieldsM at hf
  split at hf
  ·cases hf
  ·simp at hf
   subst hf
   assumption
 | c :: r, cur, f, hf => by
  unfold fieldsM at hf
  split at hf
  ·split at hf
   ·exact fields_ne r [] f hf
   ·simp only [List.mem_cons] at hf
    rcases hf with rfl | hf
    ·assumption
    ·exact fields_ne r [] f hf
  ·exact fields_ne r _ f hf
theorem fields_len : ∀ (t cur : Tx), (fieldsM t cur).length ≤ t.length + cur.length ∧ ∀ f ∈ fieldsM t cur, f.length ≤ t.length + cur.length
 | [], cur => by
  unfold fieldsM
  split
  ·simp
  ·rename_i h
   have : 0 < cur.length := List.length_pos_iff.2 h
   simp
   omega
 | c :: r, cur => by
  have h1 := fields_len r []
  have h2 := fields_len r (cur ++ [c])
  simp only [List.length_nil, List.length_append, List.length_cons] at h1 h2 ⊢
  unfold fieldsM
  split
  ·split
   ·exact ⟨by omega, fun f hf => by have := h1.2 f hf; omega⟩
   ·rename_i h
    have : 0 < cur.length := List.length_pos_iff.2 h
    simp only [List.length_cons, List.mem_cons]
    refine ⟨by omega, fun f hf => ?_⟩
    rcases hf with rfl | hf
    ·omega
    ·have := h1.2 f hf; omega
  ·exact ⟨by omega, fun f hf => by have := h2.2 f hf; omega⟩
def noR (w : Tx) : Bool := w.getD 0 0 != 35
theorem wordsM_noR (t : Tx) : wordsM t = (fieldsM t []).takeWhile noR := rfl
theorem takeWhile_cut {α : Type} {p : α → Bool} : ∀ {l : List α} {k : Nat}, (∀ x ∈ l.take k, p x = true) → (∀ x, l[k]? = some x → p x = false) → l.takeWhile p = l.take k
 | [], k, _, _ => by simp
 | a :: r, 0, _, h => by rw [List.takeWhile_cons, if_neg (by rw [h a rfl]; decide), List.take_zero]
 | a :: r, k + 1, h1, h2 => by
  rw [List.takeWhile_cons, if_pos (h1 a (by simp)), List.take_succ_cons, takeWhile_cut (fun x hx => h1 x (by rw [List.take_succ_cons]; exact List.mem_cons_of_mem _ hx)) (fun x hx => h2 x (by rw [List.getElem?_cons_succ]; exact hx))]
theorem takeWhile_more {α : Type} {p : α → Bool} : ∀ {l : List α} {k : Nat}, k ≤ l.length → (∀ x ∈ l.take k, p x = true) → k ≤ (l.takeWhile p).length
 | _, 0, _, _ => Nat.zero_le _
 | [], k + 1, h, _ => by simp at h
 | a :: r, k + 1, h, h1 => by
  rw [List.takeWhile_cons, if_pos (h1 a (by simp)), List.length_cons]
  have := takeWhile_more (l := r) (k := k) (by simpa using h) (fun x hx => h1 x (by rw [List.take_succ_cons]; exact List.mem_cons_of_mem _ hx))
  omega
end Go.Proofs.YtoofgblmpjndjaaGreatDoor.Scr
set_option linter.unusedVariables false
set_option linter.unusedSimpArgs false
namespace Go.Proofs.YtoofgblmpjndjaaGreatDoor.Scr
open Go.RowKit K Go.Lib Go.Shelf

attribute [local go_sem] Oper.semAt_some

set_option maxRecDepth 100000 in
set_option maxHeartbeats 4000000 in
theorem words1_in {Bs : Nat} {t : Tx} (w : World) (hBs : Bs < w.heap.size) (hc : w.cell? ⟨Bs, 0, none⟩ = some (.string (ba t))) (hlen : t.length ≤ 8192) :
  SeqB Fence.wide 5 Tryz.prog 40 #[.pointer (some ⟨Bs, 0, none⟩)] (fun x : Tx => #[vS x]) (wordsM t) w := by
 intro l J W hW hJ hY h0
 have x0 := (hW.cell (p := ⟨Bs, 0, none⟩) hBs).trans hc
 have HFF := Lib.hid (Scs.strings_FieldsFunc_grows 42 #[] (enters_of Tryz.func42 (by kernel_rfl) rfl) blR (ba t) W (by rw [ba_size]; omega) (fun V x hx hb => (blank_any x V).mono fun e w' ⟨he, hw⟩ => ⟨he, by rw [hw]; exact Below.refl _ _⟩))
 rw [fields_eq] at HFF
 obtain ⟨FL, hFL⟩ : ∃ k, fieldsM t [] = k := ⟨_, rfl⟩
 have hFL2 : fieldsM (ba t).data.toList [] = FL := hFL
 rw [hFL2, List.length_map, show (FL.map ba).map Value.string = FL.map vS from by rw [List.map_map]; rfl] at HFF
 have hfl := fields_len t []
 have hne := fields_ne t []
 rw [hFL] at hfl hne
 rw [List.length_nil, Nat.add_zero] at hfl
 have HFL := Lib.hid hFL
 have HNE := Lib.hid hne
 have HLF := Lib.hid hfl.2
 have hFm := hfl.1
 obtain ⟨m, hm⟩ : ∃ k, FL.length = k := ⟨_, rfl⟩
 rw [hm] at HFF hFm
 have HLM := Lib.hid hm
 have HM : Hid (m ≤ 8192) := by show _ ≤ _; omega
 have HLEN := Lib.hid hlen
 obtain ⟨zt, hzt⟩ : ∃ z, ba t = z := ⟨_, rfl⟩
 rw [hzt] at x0 HFF
 have HJ := Lib.hid hJ
 have HY := Lib.hid hY
 have H0 := Lib.hid h0
 have HW := Lib.hid hW
 clear hc hBs hFL hFL2 hfl hne hm hlen hFm hzt hJ hY h0 hW
 have hw1 : Fence.wide.fn 41 := trivial
 have hw2 : Fence.wide.fn 43 := trivial
 have hw3 : ∀ f : FuncId, Fence.wide.fn f := fun _ => trivial
 refine callsIn_of_wp Tryz.func40 rfl trivial ?_ rfl
 simp only [Tryz.ntmps40, List.size_toArray, List.length_cons, List.length_nil, Nat.reduceAdd, Nat.reduceSub, Array.replicate_succ, Array.replicate_zero, List.push_toArray, List.append_toArray, List.nil_append, List.cons_append]
 gi_wp2_with (gi_at_call 41; refine (callsIn_wide.2 HFF.out).mono ?_; rintro e V1 ⟨A, rfl, hA, hown, hb⟩; have HSF := Lib.hid (SS.of_own hown (by have := HM.out; omega)); have HA := Lib.hid hA; have HB := Lib.hid hb; clear hA hown hb)
 gi_loopw [8] (fun s8 wr => ∃ (k : Nat) (M : Nat → Prop), k ≤ m ∧ s8 = .int .i64 (k : Int) ∧ Hid (J (FL.take k) M wr) ∧ Hid (¬ M A) ∧ Hid (SS wr (some ⟨A, 0, none⟩) m FL) ∧ Hid (∀ x ∈ FL.take k, noR x = true)) (fun s8 _ => m - (intOf s8).toNat)
 case atStart => exact ⟨0, (fun b => b < W.heap.size), Nat.zero_le _, rfl, HJ.out _ _ _ _ H0.out HB.out, (by have := HA.out; show ¬ (A < W.heap.size); omega), HSF, fun x hx => by simp at hx⟩
 case round =>
  obtain ⟨k, M, hk, rfl, HJK, HMA, HSS, HNR⟩ := hrel
  by_cases hlt : k < m
  ·obtain ⟨b', o', f, e', hcf, hf, hbl⟩ := HSS.out.cell (i := k) hlt
   injection e' with e'
   injection e' with ea eb
   subst ea eb
   rw [Nat.zero_add] at hcf
   have HBL := Lib.hid hbl
   have HLT := Lib.hid hlt
   have HF := Lib.hid hf
   have hmem : f ∈ FL := List.mem_of_getElem? hf
   have hfn := HNE.out f hmem
   have hfz := HLF.out f hmem
   obtain ⟨zf, hzf⟩ : ∃ z, ba f = z := ⟨_, rfl⟩
   have hp : 0 < zf.size := by rw [← hzf, ba_size]; exact List.length_pos_iff.2 hfn
   obtain ⟨c, hc, hcl⟩ := byte_at (s := zf) (k := 0) hp
   have hfc : f.getD 0 0 = c := by
    have : f[0]? = some c := by rw [← hzf] at hcl; exact hcl
    rw [List.getD_eq_getElem?_getD, this]; rfl
   have HCL : Hid (Calls Tryz.prog 43 #[.string (ba f)] wr fun e w' => e = .returned (.string (ba f)) ∧ Below wr.heap.size wr w') := clone_any (ba f) wr (by rw [ba_size]; have := HLEN.out; omega)
   have d0 : decide ((k : Int) < (m : Int)) = true := decide_eq_true (by omega)
   have e0 : decide (k < m) = true := decide_eq_true hlt
   have l0 : (k : Int) < m := by omega
   have z0 : (0 : Int) ≤ k := by omega
   have HU : Hid (wrap64 ((k : Int) + 1) = ((k + 1 : Nat) : Int)) := by show _ = _; have := HM.out; rw [IntWalk.wrap64_in _ (by omega)]; rfl
   have HZF := Lib.hid hzf
   rw [hzf] at hcf HCL
   have HFC := Lib.hid hfc
   obtain ⟨zn, hzn⟩ : ∃ n, zf.size = n := ⟨_, rfl⟩
   clear hcl hmem hfn hfz hzf hfc hf hbl hlt hk
   by_cases h35 : c = 35
   ·have q5 : ((c.toNat : Nat) : Int) = 35 := by rw [h35]; rfl
    have p5 : (((c.toNat : Nat) : Int) == 35) = true := by rw [q5]; rfl
    have HE : Hid (wordsM t = FL.take k) := by
     show _ = _
     rw [wordsM_noR, HFL.out]
     exact takeWhile_cut HNR.out (fun x hx => by rw [HF.out] at hx; injection hx with hx; subst hx; unfold noR; rw [HFC.out, h35]; decide)
    clear h35 q5
    gi_wp2
    refine bodyPost_ret (results_none rfl _ _ _) rfl ?_
    exact ⟨⟨_, rfl⟩, M, by rw [HE.out]; exact HJK.out⟩
   ·have p5 : (((c.toNat : Nat) : Int) == 35) = false := beq_eq_false_iff_ne.2 (neq_nat (n := 35) (by decide) h35)
    have HTK : Hid (FL.take (k + 1) = FL.take k ++ [f]) := by show _ = _; rw [List.take_add_one, HF.out]; rfl
    have HNR2 : Hid (∀ x ∈ FL.take (k + 1), noR x = true) := by
     show ∀ x ∈ FL.take (k + 1), noR x = true
     rw [HTK.out]
     intro x hx
     rw [List.mem_append, List.mem_singleton] at hx
     rcases hx with hx | rfl
     ·exact HNR.out x hx
     ·unfold noR
      rw [HFC.out]
      simpa using h35
    have HN : Hid ((FL.take k).length < (wordsM t).length) := by
     show _ < _
     have := takeWhile_more (k := k + 1) (by rw [HLM.out]; exact HLT.out) HNR2.out
     rw [wordsM_noR, HFL.out, List.length_take]
     omega
    clear h35
    gi_wp2_with (gi_at_call 43; refine (callsIn_wide.2 HCL.out).mono ?_; rintro e W2 ⟨rfl, hb2⟩; (have HJ2 := HJ.out _ _ _ _ HJK.out hb2); (have HSS2 := Lib.hid (HSS.out.below hb2)); (have HB2 := Lib.hid hb2); obtain ⟨fn, tmps, assign, body, hy, hR⟩ := HY.out _ f M W2 HJ2 HN.out; (have hy2 : (Instr.yield l #[.string zf]).run Tryz.prog W2 = .ok (.round l fn tmps assign body) W2 := (by rw [← HZF.out]; exact hy)); clear hb2 hy)
    refine hR.mono ?_
    rintro e W3 ⟨rfl, hJ3, hs3, hf3⟩
    have hA2 : A < W2.heap.size := by have := HBL.out; have := HB2.out.size; omega
    have HSS3 : Hid (SS W3 (some ⟨A, 0, none⟩) m FL) := by
     have hx := hf3 A hA2 HMA.out
     refine ⟨HSS2.out.len, fun j u hu => ?_, HSS2.out.sz⟩
     obtain ⟨b, off, e, hc⟩ := HSS2.out.sl j u hu
     injection e with e
     injection e with e1 e2
     subst e1 e2
     exact ⟨_, _, rfl, (World.cell?_of_block hx).trans hc⟩
    have HMA3 : Hid (¬ Later M W2 A) := by
     show ¬ (M A ∨ W2.heap.size ≤ A)
     have := HMA.out
     intro h
     rcases h with h | h
     ·exact this h
     ·omega
    have HJ4 : Hid (J (FL.take (k + 1)) (Later M W2) W3) := by show J _ _ _; rw [HTK.out]; exact hJ3
    clear hJ3 hs3 hf3 hA2 HJ2 hR
    gi_wp2
    go_roundw
    case rel => exact ⟨k + 1, Later M W2, HLT.out, by first | rfl | rw [HU.out], HJ4, HMA3, HSS3, HNR2⟩
    case measure => first | exact meas_by (d := 1) HLT.out (by omega) | (rw [HU.out]; exact meas_by (d := 1) HLT.out (by omega))
  ·obtain rfl : k = m := by omega
   have d0 : decide ((k : Int) < (k : Int)) = false := decide_eq_false (by omega)
   have HE : Hid (wordsM t = FL.take k) := by
    show _ = _
    rw [wordsM_noR, HFL.out]
    exact takeWhile_cut HNR.out (fun x hx => by rw [List.getElem?_eq_none (by rw [HLM.out]; exact Nat.le_refl _)] at hx; cases hx)
   clear hlt hk
   gi_wp2
   go_end0
   exact ⟨⟨_, rfl⟩, M, by rw [HE.out]; exact HJK.out⟩
theorem words_any {t : Tx} (w : World) : Calls Tryz.prog 22 #[.string (ba t)] w fun e w' => e = .returned (.func (.func 40) #[] #[.pointer (some ⟨w.heap.size, 0, none⟩)]) ∧ w.alloc (.cells #[.string (ba t)] 9) = w' := by
 have hmf : ∀ (fn : Fn) (first cap : Array Value) (w : World), (Instr.makeFunc fn first cap).run Tryz.prog w = .ok (.func fn first cap) w := fun _ _ _ _ => rfl
 obtain ⟨z, hz⟩ : ∃ z, ba t = z := ⟨_, rfl⟩
 rw [hz]
 clear hz
 go_enter Tryz.func22, Tryz.ntmps22
 go_wp2
 go_ret
 exact ⟨rfl, rfl⟩
theorem gather_any {Bs : Nat} {t : Tx} (w : World) (hBs : Bs < w.heap.size) (hc : w.cell? ⟨Bs, 0, none⟩ = some (.string (ba t))) (hlen : t.length ≤ 8192) :
  Calls Tryz.prog 21 #[.func (.func 40) #[] #[.pointer (some ⟨Bs, 0, none⟩)]] w fun e W' => ∃ v, e = .returned v ∧ W'.ownsRow w.heap.size 9 1 v (wordsM t).length ((wordsM t).map vS) ∧ Below w.heap.size w W' :=
 collect_texts w (enters_of Tryz.func40 (by kernel_rfl) rfl) (by
  have h1 := fields_len t []
  have h2 : (wordsM t).length ≤ (fieldsM t []).length := List.Sublist.length_le (List.takeWhile_sublist _)
  simp only [List.length_nil] at h1
  omega) (words1_in w hBs hc hlen)
end Go.Proofs.YtoofgblmpjndjaaGreatDoor.Scr
set_option linter.unusedVariables false
set_option linter.unusedSimpArgs false
namespace Go.Proofs.YtoofgblmpjndjaaGreatDoor.Scr
open Go.RowKit K Go.Lib Go.Shelf

structure SRow where
 p : Int × St
 A : Option Addr
 n : Nat
 c : Nat
 A2 : Option Addr
 m : Nat
 c2 : Nat
def SRow.cells (r : SRow) : Array Value := stC r.p.1 (ba r.p.2.op) (ba r.p.2.dst) r.A r.n r.c (ba r.p.2.file) r.A2 r.m r.c2
def SRow.own (w : World) (base : Nat) (r : SRow) : Prop :=
 w.ownsRow base 9 1 (.slice r.A r.n r.c) r.n (r.p.2.srcs.map vS) ∧ w.ownsRow base 3 1 (.slice r.A2 r.m r.c2) r.m (r.p.2.args.map (.int .i64))
def TO (w : World) (base : Nat) (v : Value) (k : Nat) (R : List SRow) : Prop :=
 w.ownsRow base 37 6 v k (R.flatMap fun r => r.cells.toList) ∧ R.length = k ∧ ∀ r ∈ R, r.own w base
theorem own_apart {w : World} {b1 b2 : Nat} {e1 e2 : TypeId} {s1 s2 : Nat} {v1 v2 : Value} {n1 n2 : Nat} {xs1 xs2 : List Value} (h1 : w.ownsRow b1 e1 s1 v1 n1 xs1) (h2 : w.ownsRow b2 e2 s2 v2 n2 xs2) (he : e1 ≠ e2) : v1.ownBlock = none ∨ v1.ownBlock ≠ v2.ownBlock := by
 rcases h1.2 with ⟨rfl, _⟩ | ⟨g, cap, cur, rfl, -, hg, -⟩
 ·exact .inl rfl
 ·refine .inr fun e => ?_
  rcases h2.2 with ⟨rfl, _⟩ | ⟨g2, cap2, cur2, rfl, -, hg2, -⟩
  ·simp [Value.ownBlock] at e
  ·have : g = g2 := by simpa [Value.ownBlock] using e
   subst this
   rw [hg] at hg2
   injection hg2 with hg2
   injection hg2 with _ h
   exact he h
theorem SRow.own.below {w w' : World} {base : Nat} {r : SRow} (h : r.own w base) (hb : Below w.heap.size w w') : r.own w' base := ⟨own_below h.1 hb, own_below h.2 hb⟩
theorem SRow.own.lower {w : World} {base base' : Nat} {r : SRow} (h : r.own w base) (hb : base' ≤ base) : r.own w base' := ⟨own_lower h.1 hb, own_lower h.2 hb⟩
theorem TO.below {w w' : World} {base : Nat} {v : Value} {k : Nat} {R : List SRow} (h : TO w base v k R) (hb : Below w.heap.size w w') : TO w' base v k R := ⟨own_below h.1 hb, h.2.1, fun r hr => (h.2.2 r hr).below hb⟩
theorem TO.lower {w : World} {base base' : Nat} {v : Value} {k : Nat} {R : List SRow} (h : TO w base v k R) (hb : base' ≤ base) : TO w base' v k R := ⟨own_lower h.1 hb, h.2.1, fun r hr => (h.2.2 r hr).lower hb⟩
theorem TO.nil (w : World) (base : Nat) : TO w base (.slice none 0 0) 0 [] := ⟨World.ownsRow_nil _ _ _ _, rfl, fun r hr => by cases hr⟩
theorem own_other {w w' : World} {base : Nat} {e : TypeId} {size : Nat} {v : Value} {n : Nat} {xs : List Value} {B : Nat} (h : w.ownsRow base e size v n xs) (hB : B < base) (hg : w.grownBy w' (some B)) : w'.ownsRow base e size v n xs := by
 refine h.kept hg ?_
 cases hv : v.ownBlock with
 | none => exact .inl rfl
 | some g =>
  right
  intro e
  injection e with e
  have := (h.lt g hv).1
  omega
theorem TO.other {w w' : World} {base : Nat} {v : Value} {k : Nat} {R : List SRow} {B : Nat} (h : TO w base v k R) (hB : B < base) (hg : w.grownBy w' (some B)) : TO w' base v k R :=
 ⟨own_other h.1 hB hg, h.2.1, fun r hr => ⟨own_other (h.2.2 r hr).1 hB hg, own_other (h.2.2 r hr).2 hB hg⟩⟩
theorem TO.more {w0 w w' : World} {base : Nat} {v v' : Value} {k : Nat} {R : List SRow} {r : SRow} (h : TO w base v k R) (hr : r.own w base) (h1 : w'.ownsRow base 37 6 v' (k + 1) ((R.flatMap fun r => r.cells.toList) ++ r.cells.toList)) (hg : w.grownBy w' v.ownBlock) : TO w' base v' (k + 1) (R ++ [r]) := by
 refine ⟨by rw [List.flatMap_append]; simpa using h1, by rw [List.length_append, h.2.1]; rfl, fun x hx => ?_⟩
 rw [List.mem_append, List.mem_singleton] at hx
 have ho : x.own w base := by
  rcases hx with hx | rfl
  ·exact h.2.2 x hx
  ·exact hr
 exact ⟨ho.1.kept hg (own_apart ho.1 h.1 (by decide)), ho.2.kept hg (own_apart ho.2 h.1 (by decide))⟩
theorem unknown_any {w : World} {B M n : Nat} {p : Tx → Bool} {t : Tx} (hk : KM w B n p) (hM : w.cell? ⟨M, 0, none⟩ = some (.map (some B))) (ht : t.length ≤ maxLen) :
  Calls Tryz.prog 25 #[.string (ba t), .pointer (some ⟨M, 0, none⟩)] w fun e w' => e = .returned (.bool (!p t)) ∧ w' = w := by
 have hl := hk.look ht
 obtain ⟨z, hz⟩ : ∃ z, ba t = z := ⟨_, rfl⟩
 obtain ⟨b, hb⟩ : ∃ b, p t = b := ⟨_, rfl⟩
 rw [hz, hb] at hl
 rw [hz, hb]
 clear hz hb hk ht
 go_enter Tryz.func25, Tryz.ntmps25
 go_wp2
 go_ret
 exact ⟨rfl, rfl⟩
abbrev Short : Type := { t : Tx // t.length ≤ maxLen }
instance : Inhabited Short := ⟨⟨[], Nat.zero_le _⟩⟩
theorem known_any {w : World} {B M n : Nat} {p : Tx → Bool} (hk : KM w B n p) (hM : w.cell? ⟨M, 0, none⟩ = some (.map (some B))) (hMl : M < w.heap.size) : PredAt Tryz.prog 25 #[.pointer (some ⟨M, 0, none⟩)] (fun x : Short => vS x.1) (fun x => !p x.1) w := fun W x hb =>
 (unknown_any (hk.below hb hk.lt) ((hb.cell (p := ⟨M, 0, none⟩) hMl).trans hM) x.2).mono fun e w' ⟨he, hw⟩ => ⟨he, 0, hw⟩
def shorts : (l : List Tx) → (∀ t ∈ l, t.length ≤ maxLen) → List Short
 | [], _ => []
 | t :: r, h => ⟨t, h t (by simp)⟩ :: shorts r (fun x hx => h x (by simp [hx]))
theorem shorts_map : ∀ (l : List Tx) (h : ∀ t ∈ l, t.length ≤ maxLen), (shorts l h).map (·.1) = l
 | [], _ => rfl
 | t :: r, h => by unfold shorts; rw [List.map_cons, shorts_map r]
theorem shorts_len (l : List Tx) (h : ∀ t ∈ l, t.length ≤ maxLen) : (shorts l h).length = l.length := by have := congrArg List.length (shorts_map l h); simpa using this
end Go.Proofs.YtoofgblmpjndjaaGreatDoor.Scr
