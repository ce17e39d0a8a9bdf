/-
  Texts of this claim, joined by program (GrdC, GrdD). Walks: the rows of a grid of colours.
-/
import Derived.Test.YtbmlopklhgladaaDoorZG12
import Derived.Sort.CutIn
import Derived.Deep.AppendLies
set_option linter.unusedVariables false
set_option linter.unusedSimpArgs false
namespace Go.Proofs.YtbmlopklhgladaaDoor.Pnm
open Go.RowKit K Ian Ard Hld Go.Shelf

attribute [local go_sem] Oper.semAt_some Stl.wide_fn

/-- the cells of a row of colours -/
def rowC (l : List Int) (W y : Nat) : List Int := (l.drop (4 * (y * W))).take (4 * W)
theorem rowC_len {l : List Int} {W H y : Nat} (hl : l.length = W * H * 4) (hy : y < H) : (rowC l W y).length = W * 4 := by
  unfold rowC
  rw [List.length_take, List.length_drop, hl]
  have h1 : (y + 1) * W ≤ H * W := Nat.mul_le_mul_right W hy
  rw [Nat.add_mul, Nat.one_mul, Nat.mul_comm H W] at h1
  omega
/-- what a body keeps: blocks -/
def KpS (ks : List Nat) (W W' : World) : Prop := ∀ k ∈ ks, W'.heap[k]? = W.heap[k]?
theorem sl_sub {w : World} {b o p m : Nat} {l : List Int} {k : IntKind} (h : Sl w (some ⟨b, o, none⟩) (l.map (.int k))) : Sl w (some ⟨b, o + p, none⟩) (((l.drop p).take m).map (.int k)) := by
  intro j u hu
  rw [List.getElem?_map, Option.map_eq_some_iff] at hu
  obtain ⟨x, hx, rfl⟩ := hu
  rw [List.getElem?_take] at hx
  split at hx
  · rw [List.getElem?_drop] at hx
    obtain ⟨b', o', e, hc⟩ := h (p + j) (.int k x) (by rw [List.getElem?_map, hx]; rfl)
    injection e with e
    injection e with e1 e2
    subst e1 e2
    exact ⟨_, _, rfl, by rw [Nat.add_assoc]; exact hc⟩
  · cases hx
theorem sl_of_heap {w w' : World} {b o : Nat} {xs : List Value} (h : Sl w (some ⟨b, o, none⟩) xs) (hk : w'.heap[b]? = w.heap[b]?) : Sl w' (some ⟨b, o, none⟩) xs := by
  intro j u hu
  obtain ⟨b', o', e, hc⟩ := h j u hu
  injection e with e
  injection e with e1 e2
  subst e1 e2
  refine ⟨_, _, rfl, ?_⟩
  unfold World.cell? at hc ⊢
  simp only [hk]
  exact hc
theorem KpS.lt {ks : List Nat} {W W' : World} {k : Nat} (h : KpS ks W W') (hk : k ∈ ks) (hlt : k < W.heap.size) : k < W'.heap.size := by
  have h1 := h k hk
  rw [Array.getElem?_eq_getElem hlt] at h1
  exact (Array.getElem?_eq_some_iff.1 h1).1
theorem KpS.trans {ks : List Nat} {A B C : World} (h : KpS ks A B) (k : KpS ks B C) : KpS ks A C := fun x hx => (k x hx).trans (h x hx)
set_option maxRecDepth 100000 in
set_option maxHeartbeats 2000000 in
theorem rows1_held (n : Nat) (hn : 1 ≤ n) {Bg gb ab Wd H c : Nat} {l : List Int} (w : World) (hB : Boxed w Bg 68 (.pointer (some ⟨gb, 0, none⟩))) (hg : w.heap[gb]? = some (.cells #[.int .i64 Wd, .int .i64 H, .slice (some ⟨ab, 0, none⟩) (Wd * H) c] 110 (0, 0)))
    (hs : Sl w (some ⟨ab, 0, none⟩) (l.map (.int .u16))) (hc : Wd * H ≤ c) (hl : l.length = Wd * H * 4) (hW : 1 ≤ Wd) (hH : 1 ≤ H) (hp : Wd * H ≤ 65536) :
    SeqHeld Fence.wide n Tryd.prog 55 #[.pointer (some ⟨Bg, 0, none⟩)] (fun x : Nat × Option Addr × Nat => #[.int .i64 x.1, .slice x.2.1 Wd x.2.2]) (fun pre x W => x.1 = pre.length ∧ x.1 < H ∧ Sl W x.2.1 ((rowC l Wd x.1).map (.int .u16))) (KpS [Bg, gb, ab]) (fun ys => ys.length = H) w := by
  intro ll J W hW0 hJ hY h0
  have HW0 : Hid (∀ k ∈ [Bg, gb, ab], k < w.heap.size) := by
    intro k hk
    have hal : ab < w.heap.size := by
      have h0 : 0 < l.length := by rw [hl]; have := Nat.mul_pos (show 0 < Wd by omega) (show 0 < H by omega); omega
      obtain ⟨b', o', e, hc⟩ := hs 0 (.int .u16 l[0]) (by rw [List.getElem?_map, List.getElem?_eq_getElem h0]; rfl)
      injection e with e
      injection e with e1 e2
      subst e1
      exact World.block_lt_of_cell? w _ hc
    have hgl := (Array.getElem?_eq_some_iff.1 hg).1
    have hBl := hB.lt
    simp at hk
    rcases hk with rfl | rfl | rfl <;> assumption
  have HK0 : Hid (KpS [Bg, gb, ab] w W) := fun k hk => hW0.block k (HW0.out k hk)
  have hWd : Wd ≤ 65536 := Nat.le_trans (Nat.le_mul_of_pos_right Wd (by omega)) hp
  have kB : W.cell? ⟨Bg, 0, none⟩ = some (.pointer (some ⟨gb, 0, none⟩)) := by
    have : Boxed W Bg 68 (.pointer (some ⟨gb, 0, none⟩)) := (HK0.out Bg (by simp)).trans hB
    exact this.cell
  have kG : W.heap[gb]? = some (.cells #[.int .i64 Wd, .int .i64 H, .slice (some ⟨ab, 0, none⟩) (Wd * H) c] 110 (0, 0)) := (HK0.out gb (by simp)).trans hg
  refine callsIn_of_wp Tryd.func55 rfl trivial ?_ rfl
  simp only [Tryd.ntmps55, List.size_toArray, List.length_cons, List.length_nil, Nat.reduceAdd, Nat.reduceSub, Array.replicate_succ, Array.replicate_zero, List.push_toArray, List.append_toArray, List.nil_append, List.cons_append]
  have HY := Lib.hid hY
  have HJ := Lib.hid hJ
  have HJ0 := Lib.hid h0
  have HGW := Lib.hid (gridH_any (b := .int .i64 0) W kG)
  have HB := Lib.hid hB
  have HG := Lib.hid hg
  have HS := Lib.hid hs
  have HL := Lib.hid hl
  clear hY hJ h0 hB hg hs hl kG
  gi_wp2_with (gi_at_call 56; refine (callsIn_wide.2 HGW.out).mono ?_; rintro e w' ⟨rfl, rfl⟩)
  gi_loopw [6] (fun i wr => ∃ y : Nat, y ≤ H ∧ i = .int .i64 y ∧ Hid (∃ pre : List (Nat × Option Addr × Nat), pre.length = y ∧ J pre wr) ∧ Hid (KpS [Bg, gb, ab] w wr))
    (fun i _ => H - (intOf i).toNat)
  case atStart => exact ⟨0, Nat.zero_le _, rfl, ⟨[], rfl, HJ0.out⟩, HK0⟩
  case round =>
    clear HK0 HJ0 HGW
    obtain ⟨y, hy, rfl, HP, HK⟩ := hrel
    by_cases hlt : y < H
    · have d1 : decide ((y : Int) < (H : Int)) = true := decide_eq_true (by omega)
      obtain ⟨pre, hpre, hJp⟩ := HP.out
      obtain ⟨p, hpp⟩ : ∃ p, y * Wd = p := ⟨_, rfl⟩
      obtain ⟨q, hq⟩ : ∃ q, p + Wd = q := ⟨_, rfl⟩
      have hpN : q ≤ Wd * H := by
        have h1 : (y + 1) * Wd ≤ H * Wd := Nat.mul_le_mul_right Wd hlt
        rw [Nat.add_mul, Nat.one_mul, Nat.mul_comm H Wd, hpp] at h1
        omega
      have e1 : IntKind.i64.wrap ((y : Int) * (Wd : Int)) = (p : Int) := by rw [← Int.natCast_mul, hpp]; exact IntWalk.i64_in _ (by omega)
      have e2 : IntKind.i64.wrap ((y : Int) + 1) = (y : Int) + 1 := IntWalk.i64_in _ (by
        have : H ≤ Wd * H := Nat.le_mul_of_pos_left H (by omega)
        omega)
      have e3 : IntKind.i64.wrap (((y : Int) + 1) * (Wd : Int)) = (q : Int) := by
        have : ((y : Int) + 1) * (Wd : Int) = (q : Int) := by rw [← hq, ← hpp]; push_cast; rw [Int.add_mul, Int.one_mul]
        rw [this]; exact IntWalk.i64_in _ (by omega)
      have i0 : (0 : Int) ≤ (p : Int) := by omega
      have i1 : (p : Int) ≤ (q : Int) := by omega
      have i2 : (q : Int) ≤ (c : Int) := by omega
      have i4 : p ≤ q := by omega
      have i5 : q ≤ c := by omega
      have i3 : c ≠ p := by omega
      have t3 : q - p = Wd := by omega
      have kb : wr.drew.cell? ⟨Bg, 0, none⟩ = some (.pointer (some ⟨gb, 0, none⟩)) := by
        have : Boxed wr Bg 68 (.pointer (some ⟨gb, 0, none⟩)) := (HK.out Bg (by simp)).trans HB.out
        exact this.cell
      have hgw : wr.drew.heap[gb]? = some (.cells #[.int .i64 Wd, .int .i64 H, .slice (some ⟨ab, 0, none⟩) (Wd * H) c] 110 (0, 0)) := (HK.out gb (by simp)).trans HG.out
      have kg0 : wr.drew.cell? ⟨gb, 0, none⟩ = some (.int .i64 Wd) := row_cell hgw 0
      have kg2 : wr.drew.cell? ⟨gb, 2, none⟩ = some (.slice (some ⟨ab, 0, none⟩) (Wd * H) c) := row_cell hgw 2
      have HSA : Hid (Sl wr.drew (some ⟨ab, 0, none⟩) (l.map (.int .u16))) := sl_of_heap HS.out (HK.out ab (by simp))
      have HPL := Lib.hid hpre
      have HJW : J pre wr.drew := HJ.out _ _ _ hJp (Below.refl _ wr).drew
      have HKW : Hid (KpS [Bg, gb, ab] w wr.drew) := HK.out
      have HLT : Hid (∀ k ∈ [Bg, gb, ab], k < wr.drew.heap.size) := fun k hk => HK.out.lt hk (HW0.out k hk)
      have HJP := Lib.hid hJp
      have HPP := Lib.hid hpp
      have HPN := Lib.hid hpN
      clear hpre hJp hpp hgw hpN hq
      gi_wp2
      refine wpIn_region_any (by kernel_rfl) ?_
      change wpAnyIn _ _ _ _ _ _ _ _ _ (World.drew _)
      refine wpAnyIn_take (i := 0) (v := .func (.yield ll) #[] #[]) rfl rfl (by kernel_rfl) (by kernel_rfl) (by kernel_rfl) (fun _ _ _ h => h) ⟨Or.inl ⟨by rfl, fun w => by go_simp⟩, fun _ => rfl⟩ ?_
      refine wpAnyIn_take (i := 1) (v := .int .i64 y) rfl rfl (by kernel_rfl) (by kernel_rfl) (by kernel_rfl) (fun _ _ _ h => h) ⟨Or.inl ⟨by rfl, fun w => by go_simp⟩, fun _ => rfl⟩ ?_
      refine Stl.wpAnyIn_still_tail 2 20 21 rfl rfl (by kernel_rfl) (by decide) (by kernel_rfl) (by kernel_rfl) ?_
      generalize wr.drew = W1 at kb kg0 kg2 HSA HJW HKW HLT ⊢
      simp only [List.take_succ_cons, List.take_zero, List.drop_succ_cons, List.drop_zero, Act.put, Array.setIfInBounds]
      repeat still_step
      refine wpStill_nil ?_
      gi_wp2_with fail
      have HROW : Hid (Sl W1 (some ⟨ab, p * 4, none⟩) ((rowC l Wd y).map (.int .u16))) := by
        have h := sl_sub (p := 4 * (y * Wd)) (m := 4 * Wd) HSA.out
        rw [show 0 + 4 * (y * Wd) = p * 4 by rw [HPP.out]; omega] at h
        exact h
      have HJ1 : Hid (J pre W1) := HJW
      refine (callsIn_wide.2 (cloneC_any (c := c - p) W1 HROW.out (rowC_len HL.out hlt) (by omega) (by simp))).mono ?_
      rintro e W2 ⟨A2, c2, rfl, hown, hb⟩
      have hS2 := Sl.of_own hown
      obtain ⟨fn, tmps, assign, body, hyr, hR⟩ := HY.out pre (y, A2, c2) W2 (HJ.out _ _ _ HJ1.out hb) ⟨HPL.out.symm, hlt, hS2⟩
      have HR := Lib.hid hR
      have HKB : Hid (KpS [Bg, gb, ab] W1 W2) := fun k hk => hb.block k (HLT.out k hk)
      clear hown hb hS2 hR e1 e2 e3 i0 i1 i2 i3 i4 i5 t3 kb kg0 kg2
      gi_wp2_with fail
      refine HR.out.mono ?_
      rintro e W3 ⟨rfl, hJ3, hk3⟩
      have HJ3 := Lib.hid hJ3
      have HK3 : Hid (KpS [Bg, gb, ab] w W3) := HKW.out.trans (HKB.out.trans hk3)
      have HN : Hid ((pre ++ [(y, A2, c2)]).length = y + 1) := by show _ = _; rw [List.length_append, HPL.out]; rfl
      have hyH : y + 1 ≤ 65536 := Nat.le_trans (Nat.le_trans hlt (Nat.le_mul_of_pos_left H (by omega))) hp
      clear hJ3 hk3 hyr
      gi_wp2
      go_roundw
      case rel => exact ⟨y + 1, by omega, by go_num, ⟨_, HN.out, HJ3.out⟩, HK3⟩
      case measure => simp [intOf]; omega
    · obtain rfl : y = H := by omega
      have d1 : decide ((y : Int) < (y : Int)) = false := decide_eq_false (by omega)
      gi_wp2
      go_end0
      obtain ⟨pre, hpre, hJp⟩ := HP.out
      exact ⟨⟨_, rfl⟩, pre, hpre, hJp⟩
end Go.Proofs.YtbmlopklhgladaaDoor.Pnm
set_option linter.unusedVariables false
set_option linter.unusedSimpArgs false
namespace Go.Proofs.YtbmlopklhgladaaDoor.Pnm
open Go.RowKit K Ian Ard Hld Go.Shelf

attribute [local go_sem] Oper.semAt_some Stl.wide_fn

/-- an append of what has just been laid, at a step of a region that draws its order, inside a fence -/
theorem stepIn_push {F : Fence} {nn : Nat} {P : Program} {ops : Array Oper} {o : Oper} {a : Act} {w : World} {K : Act → World → Prop} {Q : Exit → Act → World → Prop} {E : Prop} (hgd : o.guard = none) (s x : Operand) (t : TypeId)
    (ho : o.op = .call { callee := .builtin .append, args := #[s, x], argTypes := #[t, t] }) (base e size bytes : Nat) (z : Value) (ht : P.underlying t = some (.slice e))
    (hinfo : (P.info? e).map (fun i => (i.zero, i.size, i.bytes)) = some (some z, size, bytes)) (hzs : z.cells.size = size) (hsz : 0 < size)
    (v : Value) (n : Nat) (xs : List Value) (hs : a.eval s = v) (hown : w.ownsRow base e size v n xs) (B c : Nat) (cs : List Value) (T : TypeId)
    (hx : a.eval x = .slice (some ⟨B, 0, none⟩) 1 c) (hl : cs.length = size) (hb : w.heap[B]? = some (.cells cs.toArray T (0, 0))) (h1 : ∀ u ∈ cs, u.oneCell' = true)
    (h63 : n + 1 ≤ maxLen) (hbytes : (n + 1) * bytes ≤ 140737488355328) (hbase : base ≤ w.heap.size) (H : Nat) (hH : w.heap.size = H)
    (h : ∀ g cap w', w'.ownsRow base e size (.slice (some ⟨g, 0, none⟩) (n + 1) cap) (n + 1) (xs ++ cs) → w.grownBy w' v.ownBlock → (v.ownBlock = some g ∨ g = H) → g < w'.heap.size → K (a.put o.dst (.slice (some ⟨g, 0, none⟩) (n + 1) cap)) w') :
    if Region.wanted o (yielded ops a.tmps) = true then Oper.wpIn F nn P o a w K Q else E := by
  have hw : Region.wanted o (yielded ops a.tmps) = true := by simp [Region.wanted, hgd]
  rw [if_pos hw]
  obtain ⟨i, hi, hz, h2, h3⟩ := info_parts hinfo
  obtain ⟨g, cap, w', hr, r1, r2, r3, r4⟩ := run_append_lies (P := P) w t o.type base e i z size bytes ht hi hz h2 h3 hzs hsz v n xs hown ⟨B, 0, none⟩ 1 c cs (by rw [hl, Nat.one_mul]) (by simpa using World.news_of_block hb) h1 (by omega) h63 hbytes hbase H hH
  unfold Oper.wpIn
  refine ⟨by simp [Oper.about, ho, resolve, Target.leads, Sem.run_pure], ?_⟩
  rw [Oper.semAt_plain F _ _ (by rw [ho]; intro c hc'; cases hc')]
  simp [execOp, ho, resolve, invoke, builtin, hs, hx, hr, Result.andThen]
  exact h g cap w' r1 r2 r3 r4
theorem other_row {W w1 : World} {n₀ bx Bs : Nat} {t t2 e : TypeId} {size k : Nat} {v v' : Value} {cs : Array Value} {xs : List Value} {tmp : Obj} (hu : W.heap[Bs]? = some (.cells cs t2 (0, 0))) (hv : Boxed W bx t v) (hne : t2 ≠ t) (hte : t2 ≠ e) (hrow : W.ownsRow n₀ e size v k xs) (hgrow : (W.alloc tmp).grownBy w1 v.ownBlock) :
    (w1.setCell ⟨bx, 0, none⟩ v').heap[Bs]? = some (.cells cs t2 (0, 0)) := by
  have hlt := (Array.getElem?_eq_some_iff.1 hu).1
  have hno : some Bs ≠ v.ownBlock := by
    rcases hrow.2 with ⟨rfl, _⟩ | ⟨g, cap, cur, rfl, _, hgb, _⟩
    · simp [Value.ownBlock]
    · intro e'
      obtain rfl : Bs = g := by simpa [Value.ownBlock] using e'
      rw [hu] at hgb
      simp at hgb
      exact hte hgb.2
  have h1 : w1.heap[Bs]? = some (.cells cs t2 (0, 0)) := (hgrow.block Bs (by simp; omega) hno).trans ((Below.heap_alloc W tmp Bs hlt).trans hu)
  refine ((grownBy_setCell' w1 bx v').block Bs (Array.getElem?_eq_some_iff.1 h1).1 (fun e' => ?_)).trans h1
  injection e' with e'
  subst e'
  have h2 := hu.symm.trans (show W.heap[Bs]? = _ from hv)
  injection h2 with h2
  injection h2 with _ h2
  exact hne h2
theorem other_kept {W w1 : World} {n₀ bx Bs k : Nat} {t t2 e : TypeId} {size : Nat} {v v' u : Value} {xs : List Value} {tmp : Obj} (hu : Boxed W Bs t2 u) (hv : Boxed W bx t v) (hne : t2 ≠ t) (hte : t2 ≠ e) (hrow : W.ownsRow n₀ e size v k xs) (hgrow : (W.alloc tmp).grownBy w1 v.ownBlock) :
    Boxed (w1.setCell ⟨bx, 0, none⟩ v') Bs t2 u := other_row hu hv hne hte hrow hgrow
theorem row_drew {V w4 : World} {B : Nat} {t : TypeId} {cs : Array Value} (h : V.heap[B]? = some (.cells cs t (0, 0))) (hb : Below V.drew.heap.size V.drew w4) : w4.heap[B]? = some (.cells cs t (0, 0)) := (hb.block B (Array.getElem?_eq_some_iff.1 h).1).trans h
theorem boxed_below {W W' : World} {B n : Nat} {t : TypeId} {v : Value} (h : Boxed W B t v) (hb : Below n W W') (hn : W.heap.size ≤ n) : Boxed W' B t v := (hb.block B (Nat.lt_of_lt_of_le h.lt hn)).trans h
theorem row_from {β : Type} {b B : Nat} {cs : Array Value} {t : TypeId} {fz : Nat × Nat} : OwnFrom B (fun (_ : β) W => W.heap[b]? = some (.cells cs t fz)) := by
  intro s W W' row h hg hr
  refine (hg.block b (Array.getElem?_eq_some_iff.1 h).1 (fun e => ?_)).trans h
  obtain ⟨-, o, ho, hc⟩ := hr b e.symm
  rw [h] at ho; cases ho; cases hc
theorem pix_four {w : World} {pb po n k : Nat} {pix : List Int} (h : SI w .u16 (some ⟨pb, po, none⟩) n pix) (hl : pix.length = n) (hk : 4 * (k + 1) ≤ n) :
    ∃ v0 v1 v2 v3, Hid (pix.take (4 * (k + 1)) = pix.take (4 * k) ++ [v0, v1, v2, v3] ∧ w.cell? ⟨pb, po + 4 * k, none⟩ = some (.int .u16 v0) ∧ w.cell? ⟨pb, po + 4 * k + 1, none⟩ = some (.int .u16 v1) ∧ w.cell? ⟨pb, po + 4 * k + 2, none⟩ = some (.int .u16 v2) ∧ w.cell? ⟨pb, po + 4 * k + 3, none⟩ = some (.int .u16 v3)) := by
  have hc : ∀ j (hj : j < pix.length), w.cell? ⟨pb, po + j, none⟩ = some (.int .u16 pix[j]) := fun j hj => by
    obtain ⟨b', o', e, hc⟩ := h.sl j (.int .u16 pix[j]) (by rw [List.getElem?_map, List.getElem?_eq_getElem hj]; rfl)
    injection e with e
    injection e with e1 e2
    subst e1 e2
    exact hc
  refine ⟨pix[4 * k]'(by omega), pix[4 * k + 1]'(by omega), pix[4 * k + 2]'(by omega), pix[4 * k + 3]'(by omega), ?_, ?_, ?_, ?_, ?_⟩
  · rw [show 4 * (k + 1) = 4 * k + 1 + 1 + 1 + 1 by omega]
    have e3 := take_snoc (l := pix) (k := 4 * k + 1 + 1 + 1) (List.getElem?_eq_getElem (by omega))
    have e2 := take_snoc (l := pix) (k := 4 * k + 1 + 1) (List.getElem?_eq_getElem (by omega))
    have e1 := take_snoc (l := pix) (k := 4 * k + 1) (List.getElem?_eq_getElem (by omega))
    have e0 := take_snoc (l := pix) (k := 4 * k) (List.getElem?_eq_getElem (by omega))
    rw [e3, e2, e1, e0]
    simp only [List.append_assoc, List.cons_append, List.nil_append]
  · exact hc _ (by omega)
  · exact hc (4 * k + 1) (by omega)
  · exact hc (4 * k + 2) (by omega)
  · exact hc (4 * k + 3) (by omega)
/-- the image's box and row behind a call that lays blocks alone -/
theorem gstep_call {V w4 : World} {base bx k cc : Nat} {A : Option Addr} {xs : List Value} (hv : Boxed V bx 83 (.slice A k cc)) (hr : V.ownsRow base 45 4 (.slice A k cc) k xs) (hb : Below V.drew.heap.size V.drew w4) :
    Boxed w4 bx 83 (.slice A k cc) ∧ w4.ownsRow base 45 4 (.slice A k cc) k xs ∧ V.heap.size ≤ w4.heap.size :=
  ⟨(hb.block bx hv.lt).trans hv, own_b hr (w' := w4) ⟨hb.os, hb.tape, hb.output, hb.size, hb.block⟩, hb.size⟩
theorem boxed_drew {V w4 : World} {B : Nat} {t : TypeId} {v : Value} (h : Boxed V B t v) (hb : Below V.drew.heap.size V.drew w4) : Boxed w4 B t v := (hb.block B h.lt).trans h
theorem gstep_end {w V w4 w6 : World} {bx s B : Nat} {u uz : Value} {pix : List Int} {v0 v1 v2 v3 : Int} {row : Array Value} {T : TypeId} {pre : List Nat} (hBW : Below w.heap.size w V) (hR : (w6.setCell ⟨bx, 0, none⟩ uz).heap[w.heap.size]? = some (.cells row T (0, 0))) (hb4 : Below V.drew.heap.size V.drew w4)
    (hfin : Boxed w6 bx 83 u ∧ Boxed (w6.setCell ⟨bx, 0, none⟩ uz) bx 83 uz ∧ (w6.setCell ⟨bx, 0, none⟩ uz).ownsRow w.heap.size 45 4 uz (pre.length + 1) ((pix.take (4 * pre.length)).map (.int .u16) ++ [.int .u16 v0, .int .u16 v1, .int .u16 v2, .int .u16 v3]) ∧ KeepsOthers w4 (w6.setCell ⟨bx, 0, none⟩ uz) ∧ Below w.heap.size w4 (w6.setCell ⟨bx, 0, none⟩ uz))
    (hot : (∀ z, Boxed V s 24 z → Boxed (w6.setCell ⟨bx, 0, none⟩ uz) s 24 z) ∧ (∀ z, Boxed V (s + 1) 3 z → Boxed (w6.setCell ⟨bx, 0, none⟩ uz) (s + 1) 3 z))
    (hpx : pix.take (4 * (pre.length + 1)) = pix.take (4 * pre.length) ++ [v0, v1, v2, v3]) :
    KeepsFrom B V (w6.setCell ⟨bx, 0, none⟩ uz) ∧ KpC s (s + 1) V (w6.setCell ⟨bx, 0, none⟩ uz) ∧ ((∃ v, Boxed (w6.setCell ⟨bx, 0, none⟩ uz) bx 83 v ∧ (w6.setCell ⟨bx, 0, none⟩ uz).ownsRow w.heap.size 45 4 v (pre ++ [pre.length]).length ((pix.take (4 * (pre ++ [pre.length]).length)).map (.int .u16)) ∧ True) ∧ (w6.setCell ⟨bx, 0, none⟩ uz).heap[w.heap.size]? = some (.cells row T (0, 0)) ∧ Below w.heap.size w (w6.setCell ⟨bx, 0, none⟩ uz)) := by
  obtain ⟨f1, f2, f3, f4, f5⟩ := hfin
  have hsz : V.heap.size ≤ w4.heap.size := hb4.size
  refine ⟨⟨Nat.le_trans hb4.size f4.size, fun k o hk ho hc => f4.same k o ((hb4.block k (Array.getElem?_eq_some_iff.1 ho).1).trans ho) hc⟩, hot, ⟨uz, f2, ?_, trivial⟩, ?_, hBW.trans (⟨hb4.os, hb4.tape, hb4.output, hb4.size, fun k hk => hb4.block k (Nat.lt_of_lt_of_le hk hBW.size)⟩ : Below w.heap.size V w4) |>.trans f5⟩
  · rw [List.length_append, List.length_singleton, hpx, List.map_append]
    exact f3
  · exact hR
theorem gridRows_any {g : Nat} (w : World) : Calls Tryd.prog 34 #[.pointer (some ⟨g, 0, none⟩)] w fun e w' => e = .returned (.func (.func 55) #[] #[.pointer (some ⟨w.heap.size, 0, none⟩)]) ∧ w.alloc (.cells #[.pointer (some ⟨g, 0, none⟩)] 68) = w' := by
  go_enter Tryd.func34, Tryd.ntmps34
  go_wp2
  go_ret
  exact ⟨rfl, rfl⟩
theorem grid_bad {W H : Int} {P : Option Addr} {pn pc : Nat} (w : World) (hpn : pn ≤ 140737488351232) (hg : ¬ GoodP W H pn) : Calls Tryd.prog 31 #[.agg #[.int .i64 W, .int .i64 H, .slice P pn pc]] w fun e w' => Below w.heap.size w w' ∧ e = .returned (.tuple #[.pointer none, .int .i64 6]) := by
  have HG : Hid (∀ V, Calls Tryd.prog 48 #[.agg #[.int .i64 W, .int .i64 H, .slice P pn pc]] V (TestP V false)) := fun V => by have := good_any (W := W) (H := H) (P := P) (pc := pc) V hpn; rwa [decide_eq_false hg] at this
  have HB : Hid (Below w.heap.size w (w.alloc (.cells #[.int .i64 W, .int .i64 H, .slice P pn pc] 26))) := (Below.refl _ w).alloc (Nat.le_refl _) _
  go_enter Tryd.func31, Tryd.ntmps31
  go_wp2_with (go_at_call 48; refine (HG.out _).mono ?_; rintro e w' ⟨rfl, hb⟩)
  go_ret2
  exact ⟨HB.out.trans (hb.mono HB.out.size), rfl⟩
set_option maxRecDepth 100000 in
set_option maxHeartbeats 4000000 in
theorem grid_any {W H pn pc pb po : Nat} {pix : List Int} (w : World) (HP : SI w .u16 (some ⟨pb, po, none⟩) pn pix) (hpc : pn ≤ pc) (hg : GoodP W H pn) :
    Calls Tryd.prog 31 #[.agg #[.int .i64 W, .int .i64 H, .slice (some ⟨pb, po, none⟩) pn pc]] w fun e w' => Below w.heap.size w w' ∧ ∃ g A' c', e = .returned (.tuple #[.pointer (some ⟨g, 0, none⟩), .int .i64 0]) ∧ GridAt w.heap.size w' g W H A' c' pix := by
  have hbig : pn ≤ 140737488351232 := by have := HP.sz; simp only [kb] at this; omega
  have HG : Hid (∀ V, Calls Tryd.prog 48 #[.agg #[.int .i64 W, .int .i64 H, .slice (some ⟨pb, po, none⟩) pn pc]] V (TestP V true)) := fun V => by have := good_any (W := W) (H := H) (P := some ⟨pb, po, none⟩) (pc := pc) V hbig; rwa [decide_eq_true hg] at this
  have HGP := Lib.hid hg
  have HSI := Lib.hid HP
  have hb0 : Below w.heap.size w (w.alloc (.cells #[.int .i64 W, .int .i64 H, .slice (some ⟨pb, po, none⟩) pn pc] 26)) := (Below.refl _ w).alloc (Nat.le_refl _) _
  have hr0 : (w.alloc (.cells #[.int .i64 W, .int .i64 H, .slice (some ⟨pb, po, none⟩) pn pc] 26)).heap[w.heap.size]? = some (.cells #[.int .i64 W, .int .i64 H, .slice (some ⟨pb, po, none⟩) pn pc] 26 (0, 0)) := heap_alloc_new w _
  clear HP hg
  refine (callsIn_wide (n := 8)).1 (callsIn_of_wp_marks Tryd.func31 rfl trivial ?_ rfl)
  simp only [Tryd.ntmps31, List.size_toArray, List.length_cons, List.length_nil, Nat.reduceAdd, Nat.reduceSub, Array.replicate_succ, Array.replicate_zero, List.push_toArray, List.append_toArray, List.nil_append, List.cons_append]
  gi_upto_region 1 with (fail)
  generalize w.alloc (.cells #[.int .i64 W, .int .i64 H, .slice (some ⟨pb, po, none⟩) pn pc] 26) = W0 at hb0 hr0 ⊢
  have k0 := row_cell hr0 0
  have k1 := row_cell hr0 1
  have k2 := row_cell hr0 2
  have HB0 := Lib.hid hb0
  have HR0 := Lib.hid hr0
  clear hb0 hr0
  gi_wp2_with fail
  refine (callsIn_wide.2 (HG.out W0)).mono ?_
  rintro e w1 ⟨rfl, hb1⟩
  have HB1 : Hid (Below w.heap.size w w1) := HB0.out.trans (hb1.mono HB0.out.size)
  have HR1 : Hid (w1.heap[w.heap.size]? = some (.cells #[.int .i64 W, .int .i64 H, .slice (some ⟨pb, po, none⟩) pn pc] 26 (0, 0))) := (hb1.block _ (Array.getElem?_eq_some_iff.1 HR0.out).1).trans HR0.out
  clear k0 k1 k2 HB0 HR0 hb1 HG
  have k0 := row_cell HR1.out 0
  have k1 := row_cell HR1.out 1
  have k2 := row_cell HR1.out 2
  obtain ⟨N, hN⟩ : ∃ N : Nat, W * H = N := ⟨_, rfl⟩
  have HFT := HGP.out
  unfold GoodP FitsP at HFT
  have hN1 : 1 ≤ N ∧ N ≤ 65536 := by
    have e : (W : Int) * (H : Int) = (N : Int) := by rw [← hN]; push_cast; rfl
    have := Nat.mul_pos (show 0 < W by omega) (show 0 < H by omega)
    omega
  have hpN : pn = 4 * N := by
    have e : 4 * (W : Int) * (H : Int) = 4 * (N : Int) := by rw [← hN, Int.mul_assoc]; push_cast; rfl
    have := HFT.2
    omega
  have HND : Hid (W * H = N) := hN
  have e3 : IntKind.i64.wrap ((W : Int) * (H : Int)) = (N : Int) := by rw [← Int.natCast_mul, hN]; exact IntWalk.i64_in _ (by omega)
  have HGD : Hid (1 ≤ W ∧ W ≤ 4096 ∧ 1 ≤ H ∧ H ≤ 4096) := by show _ ∧ _; omega
  clear HFT hN
  subst hpN
  obtain ⟨i0, hi, hz0, hz1, hz2⟩ := info_parts infoCol
  have HII := Lib.hid (And.intro hi (And.intro hz0 (And.intro hz1 hz2)))
  clear hi hz0 hz1 hz2
  gi_upto_region 4 with (gi_at_make; refine wpListIn_make_own _ rfl (.const (.int .i64 0)) (.tmp 13) 83 rfl w.heap.size 45 i0 _ 4 Tryd.underlying83 HII.out.1 HII.out.2.1 HII.out.2.2.1 .i64 .i64 (N : Int) N rfl rfl rfl (by rw [HII.out.2.2.2]; omega) (by unfold maxLen; omega) HB1.out.size ?_; intro w2 hown2 hg2)
  have hBX := Boxed.new w2 83 (.slice (some ⟨w1.heap.size, 0, none⟩) 0 N)
  have hO3 := hown2.alloc (.cells #[.slice (some ⟨w1.heap.size, 0, none⟩) 0 N] 83)
  have hB2 : Below w.heap.size w w2 := HB1.out.grown hg2 HB1.out.size (fun k e => by cases e)
  have hB3 : Below w.heap.size w (w2.alloc (.cells #[.slice (some ⟨w1.heap.size, 0, none⟩) 0 N] 83)) := hB2.alloc hB2.size _
  have hR3 : (w2.alloc (.cells #[.slice (some ⟨w1.heap.size, 0, none⟩) 0 N] 83)).heap[w.heap.size]? = some (.cells #[.int .i64 W, .int .i64 H, .slice (some ⟨pb, po, none⟩) (4 * N) pc] 26 (0, 0)) :=
    (Below.heap_alloc w2 _ _ (by have := (Array.getElem?_eq_some_iff.1 HR1.out).1; exact Nat.lt_of_lt_of_le this hg2.size)).trans ((hg2.block _ (Array.getElem?_eq_some_iff.1 HR1.out).1 (by simp)).trans HR1.out)
  have hsz : w2.heap.size < (w2.alloc (.cells #[.slice (some ⟨w1.heap.size, 0, none⟩) 0 N] 83)).heap.size := by simp
  have hbx : w.heap.size ≤ w2.heap.size := hB2.size
  generalize w2.alloc (.cells #[.slice (some ⟨w1.heap.size, 0, none⟩) 0 N] 83) = w3 at hBX hO3 hB3 hR3 hsz ⊢
  generalize w2.heap.size = bx at hBX hsz hbx ⊢
  generalize w1.heap.size = gb at hBX hO3 ⊢
  clear hown2 hg2 hB2 HB1 HR1 k0 k1 k2 e3 HII HGP
  have HB3 := Lib.hid hB3
  have HR3 := Lib.hid hR3
  have HBX3 := Lib.hid hBX
  have HO3 := Lib.hid hO3
  have k2 := row_cell hR3 2
  clear hB3 hR3 hBX hO3
  gi_wp2_with (gi_at_call 49; refine (callsIn_wide.2 (chunk_any w3)).mono ?_; rintro e w' ⟨rfl, rfl⟩)
  have hbs : Boxed ((w3.alloc (.cells #[.slice (some ⟨pb, po, none⟩) (4 * N) pc] 24)).alloc (.cells #[.int .i64 4] 3)) w3.heap.size 24 (.slice (some ⟨pb, po, none⟩) (4 * N) pc) := (Boxed.new w3 24 (.slice (some ⟨pb, po, none⟩) (4 * N) pc)).alloc _
  have hbn : Boxed ((w3.alloc (.cells #[.slice (some ⟨pb, po, none⟩) (4 * N) pc] 24)).alloc (.cells #[.int .i64 4] 3)) (w3.heap.size + 1) 3 (.int .i64 4) := by
    have := Boxed.new (w3.alloc (.cells #[.slice (some ⟨pb, po, none⟩) (4 * N) pc] 24)) 3 (.int .i64 4)
    rwa [World.size_alloc] at this
  have hb5 : Below w3.heap.size w3 ((w3.alloc (.cells #[.slice (some ⟨pb, po, none⟩) (4 * N) pc] 24)).alloc (.cells #[.int .i64 4] 3)) := ((Below.refl _ w3).alloc (Nat.le_refl _) _).alloc (by simp) _
  have hs5 : ((w3.alloc (.cells #[.slice (some ⟨pb, po, none⟩) (4 * N) pc] 24)).alloc (.cells #[.int .i64 4] 3)).heap.size = w3.heap.size + 1 + 1 := by simp
  generalize (w3.alloc (.cells #[.slice (some ⟨pb, po, none⟩) (4 * N) pc] 24)).alloc (.cells #[.int .i64 4] 3) = w5 at hbs hbn hb5 hs5 ⊢
  have HBW5 : Hid (Below w.heap.size w w5) := HB3.out.trans (hb5.mono HB3.out.size)
  have HR5 : Hid (w5.heap[w.heap.size]? = some (.cells #[.int .i64 W, .int .i64 H, .slice (some ⟨pb, po, none⟩) (4 * N) pc] 26 (0, 0))) := (hb5.block _ (Array.getElem?_eq_some_iff.1 HR3.out).1).trans HR3.out
  have HX5 : Hid (Boxed w5 bx 83 (.slice (some ⟨gb, 0, none⟩) 0 N)) := boxed_below HBX3.out hb5 (Nat.le_refl _)
  have HO5 : Hid (w5.ownsRow w.heap.size 45 4 (.slice (some ⟨gb, 0, none⟩) 0 N) 0 []) := own_b HO3.out hb5
  have HBS := Lib.hid hbs
  have HBN := Lib.hid hbn
  have HS5 := Lib.hid hs5
  obtain ⟨s, hs⟩ : ∃ s, w3.heap.size = s := ⟨_, rfl⟩
  rw [hs] at HBS HBN HS5 hsz ⊢
  clear hbs hbn hb5 hs5 HB3 HR3 HBX3 HO3 k2 hs
  have HPL := Lib.hid HSI.out.len
  refine Hld.range_held (w0 := w5) rfl (by omega) (gf := 66) rfl trivial (enters_of Tryd.func66 (by kernel_rfl) rfl) (chunk1_held 7 (by omega) w5 HBS.out HBN.out hpc (by omega))
    (fun h k => ⟨fun v hv => k.1 v (h.1 v hv), fun v hv => k.2 v (h.2 v hv)⟩)
    (fun V l o o' hl ho hc _ => ⟨fun v hv => hv.kept (grownBy_putObj' V l o') (fun e => by injection e with e; subst e; rw [show V.heap[s]? = _ from hv] at ho; cases ho; cases hc), fun v hv => hv.kept (grownBy_putObj' V l o') (fun e => by injection e with e; subst e; rw [show V.heap[s + 1]? = _ from hv] at ho; cases ho; cases hc)⟩)
    (Below.refl _ _) (fun _ => rfl)
    (fun pre V => (∃ v, Boxed V bx 83 v ∧ V.ownsRow w.heap.size 45 4 v pre.length ((pix.take (4 * pre.length)).map (.int .u16)) ∧ True) ∧ V.heap[w.heap.size]? = some (.cells #[.int .i64 W, .int .i64 H, .slice (some ⟨pb, po, none⟩) (4 * N) pc] 26 (0, 0)) ∧ Below w.heap.size w V)
    (OwnFrom.and (Own.from (holdsRow_own w.heap.size bx 83 45 4 (fun pre : List Nat => pre.length) (fun pre : List Nat => (pix.take (4 * pre.length)).map (Value.int .u16)) (fun pre v => True)) _) (OwnFrom.and row_from (ownFrom_below (Nat.le_refl _) HBW5.out.size)))
    (fun x _ _ _ _ h _ _ => h)
    ⟨⟨_, HX5.out, by simpa using HO5.out, trivial⟩, HR5.out, HBW5.out⟩
    (fun x => { tmps := #[.agg #[.int .i64 W, .int .i64 H, .slice (some ⟨pb, po, none⟩) (4 * N) pc], .pointer (some ⟨w.heap.size, 0, none⟩), .pointer none, .int .i64 0, .pointer (some ⟨bx, 0, none⟩), .slice (some ⟨pb, po + 4 * x, none⟩) 4 4, .agg #[.int .i64 W, .int .i64 H, .slice (some ⟨pb, po, none⟩) (4 * N) pc], .bool true, .bool false, .pointer (some ⟨w.heap.size, 0, none⟩), .int .i64 W, .pointer (some ⟨w.heap.size, 1, none⟩), .int .i64 H, .int .i64 N, .slice (some ⟨gb, 0, none⟩) 0 N, .pointer (some ⟨w.heap.size, 2, none⟩), .slice (some ⟨pb, po, none⟩) (4 * N) pc, .func (.func 66) #[] #[.pointer (some ⟨s, 0, none⟩), .pointer (some ⟨s + 1, 0, none⟩)], .slice (some ⟨pb, po + 4 * x, none⟩) 4 4, undef, undef, undef, undef, undef, undef, undef, undef, undef, undef, undef, undef, undef], defers := [] }) ?assign ?body ?done
  case assign =>
    intro l x V K hK
    gi_wp2
    exact hK
  case body =>
    rintro l pre x V ⟨⟨v, hv, hrow, -⟩, hR, hB⟩ ⟨rfl, hlt⟩
    obtain ⟨A, cc, rfl⟩ := own_form hrow
    have HPV := HSI.out.below hB (Nat.le_refl _)
    obtain ⟨v0, v1, v2, v3, HPX⟩ : ∃ v0 v1 v2 v3, Hid (pix.take (4 * (pre.length + 1)) = pix.take (4 * pre.length) ++ [v0, v1, v2, v3] ∧ V.cell? ⟨pb, po + 4 * pre.length, none⟩ = some (.int .u16 v0) ∧ V.cell? ⟨pb, po + 4 * pre.length + 1, none⟩ = some (.int .u16 v1) ∧ V.cell? ⟨pb, po + 4 * pre.length + 2, none⟩ = some (.int .u16 v2) ∧ V.cell? ⟨pb, po + 4 * pre.length + 3, none⟩ = some (.int .u16 v3)) :=
      pix_four HPV HPL.out (by omega)
    have HCOL := Lib.hid (colour_any (b := pb) (o := po + 4 * pre.length) (c := 4) V.drew HPX.out.2.1 HPX.out.2.2.1 HPX.out.2.2.2.1 HPX.out.2.2.2.2)
    have cv0 : V.drew.cell? ⟨bx, 0, none⟩ = some (.slice A pre.length cc) := hv.cell
    have cv1 := hv.cell
    have HVB := Lib.hid hv
    have HRW := Lib.hid hrow
    have HBW := Lib.hid hB
    have HPB : Hid (pre.length + 1 ≤ 65536) := by show _ ≤ _; omega
    clear hrow hB HPV
    gi_wp2_with fail
    refine wpIn_region_any (by kernel_rfl) ?_
    change wpAnyIn _ _ _ _ _ _ _ _ _ (World.drew _)
--<orders
    refine wpAnyIn_ready (rs := [0, 1]) (by kernel_rfl) (by simp) ?_
    refine AllReadyIn.cons rfl (fun K hK => ?_) (AllReadyIn.cons rfl (fun K hK => ?_) AllReadyIn.nil)
    · go_simp
      refine hK _ _ ?_; clear hK K
      refine wpAnyIn_ready (rs := [1]) (by kernel_rfl) (by simp) ?_
      refine AllReadyIn.cons rfl (fun K hK => ?_) AllReadyIn.nil
      go_simp
      refine hK _ _ ?_; clear hK K
      refine wpAnyIn_ready (rs := [2]) (by kernel_rfl) (by simp) ?_
      refine AllReadyIn.cons rfl (fun K hK => ?_) AllReadyIn.nil
      go_simp
      refine (callsIn_wide.2 HCOL.out).mono ?_
      rintro e w4 ⟨hb4, rfl⟩
      gi_wp2_with fail
      have HX4 := Lib.hid (gstep_call HVB.out HRW.out hb4)
      have cv4 := HX4.out.1.cell
      have cv5 := (HX4.out.1.alloc (.cells #[.int .u16 v0, .int .u16 v1, .int .u16 v2, .int .u16 v3] 45)).cell
      clear cv1
      refine wpAnyIn_ready (rs := [3]) (by kernel_rfl) (by simp) ?_
      refine AllReadyIn.cons rfl (fun K hK => ?_) AllReadyIn.nil
      go_simp
      refine hK _ _ ?_; clear hK K
      refine wpAnyIn_ready (rs := [4]) (by kernel_rfl) (by simp) ?_
      refine AllReadyIn.cons rfl (fun K hK => ?_) AllReadyIn.nil
      refine stepIn_push rfl (.tmp 19) (.tmp 22) _ rfl w.heap.size 45 4 8 _ Tryd.underlying83 infoCol rfl (by omega) _ pre.length _ rfl (HX4.out.2.1.alloc _) w4.heap.size 1 [.int .u16 v0, .int .u16 v1, .int .u16 v2, .int .u16 v3] 45 rfl rfl (heap_alloc_new w4 _) (by simp [Value.oneCell']) (by have := HPB.out; unfold maxLen; omega) (by have := HPB.out; omega) (by have := HX4.out.2.2; have := HBW.out.size; simp; omega) _ rfl ?_
      intro g cap w6 hown6 hg6 _ _
      have HFIN := Lib.hid (HX4.out.1.appended (by decide) HX4.out.2.1 (Nat.le_trans HBW.out.size HX4.out.2.2) hbx hown6 hg6)
      have HOT := Lib.hid (And.intro (fun u hu => other_kept (t2 := 24) (u := u) (Bs := s) (v' := .slice (some ⟨g, 0, none⟩) (pre.length + 1) cap) (boxed_drew hu hb4) HX4.out.1 (by decide) (by decide) HX4.out.2.1 hg6) (fun u hu => other_kept (t2 := 3) (u := u) (Bs := s + 1) (v' := .slice (some ⟨g, 0, none⟩) (pre.length + 1) cap) (boxed_drew hu hb4) HX4.out.1 (by decide) (by decide) HX4.out.2.1 hg6))
      have HRR := Lib.hid (other_row (v' := .slice (some ⟨g, 0, none⟩) (pre.length + 1) cap) (row_drew hR hb4) HX4.out.1 (by decide) (by decide) HX4.out.2.1 hg6)
      have cv6 := HFIN.out.1.cell
      have cf6 := HFIN.out.1.frozen
      clear hown6 hg6
      refine hK _ _ ?_; clear hK K
      refine wpAnyIn_ready (rs := [5]) (by kernel_rfl) (by simp) ?_
      refine AllReadyIn.cons rfl (fun K hK => ?_) AllReadyIn.nil
      go_simp
      refine hK _ _ ?_; clear hK K
      refine wpAnyIn_done (by kernel_rfl) ?_ _
      exact gstep_end HBW.out HRR.out hb4 HFIN.out HOT.out HPX.out.1
    · go_simp
      refine hK _ _ ?_; clear hK K
      refine wpAnyIn_ready (rs := [0, 2]) (by kernel_rfl) (by simp) ?_
      refine AllReadyIn.cons rfl (fun K hK => ?_) (AllReadyIn.cons rfl (fun K hK => ?_) AllReadyIn.nil)
      · go_simp
        refine hK _ _ ?_; clear hK K
        refine wpAnyIn_ready (rs := [2]) (by kernel_rfl) (by simp) ?_
        refine AllReadyIn.cons rfl (fun K hK => ?_) AllReadyIn.nil
        go_simp
        refine (callsIn_wide.2 HCOL.out).mono ?_
        rintro e w4 ⟨hb4, rfl⟩
        gi_wp2_with fail
        have HX4 := Lib.hid (gstep_call HVB.out HRW.out hb4)
        have cv4 := HX4.out.1.cell
        have cv5 := (HX4.out.1.alloc (.cells #[.int .u16 v0, .int .u16 v1, .int .u16 v2, .int .u16 v3] 45)).cell
        clear cv1
        refine wpAnyIn_ready (rs := [3]) (by kernel_rfl) (by simp) ?_
        refine AllReadyIn.cons rfl (fun K hK => ?_) AllReadyIn.nil
        go_simp
        refine hK _ _ ?_; clear hK K
        refine wpAnyIn_ready (rs := [4]) (by kernel_rfl) (by simp) ?_
        refine AllReadyIn.cons rfl (fun K hK => ?_) AllReadyIn.nil
        refine stepIn_push rfl (.tmp 19) (.tmp 22) _ rfl w.heap.size 45 4 8 _ Tryd.underlying83 infoCol rfl (by omega) _ pre.length _ rfl (HX4.out.2.1.alloc _) w4.heap.size 1 [.int .u16 v0, .int .u16 v1, .int .u16 v2, .int .u16 v3] 45 rfl rfl (heap_alloc_new w4 _) (by simp [Value.oneCell']) (by have := HPB.out; unfold maxLen; omega) (by have := HPB.out; omega) (by have := HX4.out.2.2; have := HBW.out.size; simp; omega) _ rfl ?_
        intro g cap w6 hown6 hg6 _ _
        have HFIN := Lib.hid (HX4.out.1.appended (by decide) HX4.out.2.1 (Nat.le_trans HBW.out.size HX4.out.2.2) hbx hown6 hg6)
        have HOT := Lib.hid (And.intro (fun u hu => other_kept (t2 := 24) (u := u) (Bs := s) (v' := .slice (some ⟨g, 0, none⟩) (pre.length + 1) cap) (boxed_drew hu hb4) HX4.out.1 (by decide) (by decide) HX4.out.2.1 hg6) (fun u hu => other_kept (t2 := 3) (u := u) (Bs := s + 1) (v' := .slice (some ⟨g, 0, none⟩) (pre.length + 1) cap) (boxed_drew hu hb4) HX4.out.1 (by decide) (by decide) HX4.out.2.1 hg6))
        have HRR := Lib.hid (other_row (v' := .slice (some ⟨g, 0, none⟩) (pre.length + 1) cap) (row_drew hR hb4) HX4.out.1 (by decide) (by decide) HX4.out.2.1 hg6)
        have cv6 := HFIN.out.1.cell
        have cf6 := HFIN.out.1.frozen
        clear hown6 hg6
        refine hK _ _ ?_; clear hK K
        refine wpAnyIn_ready (rs := [5]) (by kernel_rfl) (by simp) ?_
        refine AllReadyIn.cons rfl (fun K hK => ?_) AllReadyIn.nil
        go_simp
        refine hK _ _ ?_; clear hK K
        refine wpAnyIn_done (by kernel_rfl) ?_ _
        exact gstep_end HBW.out HRR.out hb4 HFIN.out HOT.out HPX.out.1
      · go_simp
        refine (callsIn_wide.2 HCOL.out).mono ?_
        rintro e w4 ⟨hb4, rfl⟩
        gi_wp2_with fail
        have HX4 := Lib.hid (gstep_call HVB.out HRW.out hb4)
        have cv4 := HX4.out.1.cell
        have cv5 := (HX4.out.1.alloc (.cells #[.int .u16 v0, .int .u16 v1, .int .u16 v2, .int .u16 v3] 45)).cell
        clear cv1
        refine wpAnyIn_ready (rs := [0, 3]) (by kernel_rfl) (by simp) ?_
        refine AllReadyIn.cons rfl (fun K hK => ?_) (AllReadyIn.cons rfl (fun K hK => ?_) AllReadyIn.nil)
        · go_simp
          refine hK _ _ ?_; clear hK K
          refine wpAnyIn_ready (rs := [3]) (by kernel_rfl) (by simp) ?_
          refine AllReadyIn.cons rfl (fun K hK => ?_) AllReadyIn.nil
          go_simp
          refine hK _ _ ?_; clear hK K
          refine wpAnyIn_ready (rs := [4]) (by kernel_rfl) (by simp) ?_
          refine AllReadyIn.cons rfl (fun K hK => ?_) AllReadyIn.nil
          refine stepIn_push rfl (.tmp 19) (.tmp 22) _ rfl w.heap.size 45 4 8 _ Tryd.underlying83 infoCol rfl (by omega) _ pre.length _ rfl (HX4.out.2.1.alloc _) w4.heap.size 1 [.int .u16 v0, .int .u16 v1, .int .u16 v2, .int .u16 v3] 45 rfl rfl (heap_alloc_new w4 _) (by simp [Value.oneCell']) (by have := HPB.out; unfold maxLen; omega) (by have := HPB.out; omega) (by have := HX4.out.2.2; have := HBW.out.size; simp; omega) _ rfl ?_
          intro g cap w6 hown6 hg6 _ _
          have HFIN := Lib.hid (HX4.out.1.appended (by decide) HX4.out.2.1 (Nat.le_trans HBW.out.size HX4.out.2.2) hbx hown6 hg6)
          have HOT := Lib.hid (And.intro (fun u hu => other_kept (t2 := 24) (u := u) (Bs := s) (v' := .slice (some ⟨g, 0, none⟩) (pre.length + 1) cap) (boxed_drew hu hb4) HX4.out.1 (by decide) (by decide) HX4.out.2.1 hg6) (fun u hu => other_kept (t2 := 3) (u := u) (Bs := s + 1) (v' := .slice (some ⟨g, 0, none⟩) (pre.length + 1) cap) (boxed_drew hu hb4) HX4.out.1 (by decide) (by decide) HX4.out.2.1 hg6))
          have HRR := Lib.hid (other_row (v' := .slice (some ⟨g, 0, none⟩) (pre.length + 1) cap) (row_drew hR hb4) HX4.out.1 (by decide) (by decide) HX4.out.2.1 hg6)
          have cv6 := HFIN.out.1.cell
          have cf6 := HFIN.out.1.frozen
          clear hown6 hg6
          refine hK _ _ ?_; clear hK K
          refine wpAnyIn_ready (rs := [5]) (by kernel_rfl) (by simp) ?_
          refine AllReadyIn.cons rfl (fun K hK => ?_) AllReadyIn.nil
          go_simp
          refine hK _ _ ?_; clear hK K
          refine wpAnyIn_done (by kernel_rfl) ?_ _
          exact gstep_end HBW.out HRR.out hb4 HFIN.out HOT.out HPX.out.1
        · go_simp
          refine hK _ _ ?_; clear hK K
          refine wpAnyIn_ready (rs := [0]) (by kernel_rfl) (by simp) ?_
          refine AllReadyIn.cons rfl (fun K hK => ?_) AllReadyIn.nil
          go_simp
          refine hK _ _ ?_; clear hK K
          refine wpAnyIn_ready (rs := [4]) (by kernel_rfl) (by simp) ?_
          refine AllReadyIn.cons rfl (fun K hK => ?_) AllReadyIn.nil
          refine stepIn_push rfl (.tmp 19) (.tmp 22) _ rfl w.heap.size 45 4 8 _ Tryd.underlying83 infoCol rfl (by omega) _ pre.length _ rfl (HX4.out.2.1.alloc _) w4.heap.size 1 [.int .u16 v0, .int .u16 v1, .int .u16 v2, .int .u16 v3] 45 rfl rfl (heap_alloc_new w4 _) (by simp [Value.oneCell']) (by have := HPB.out; unfold maxLen; omega) (by have := HPB.out; omega) (by have := HX4.out.2.2; have := HBW.out.size; simp; omega) _ rfl ?_
          intro g cap w6 hown6 hg6 _ _
          have HFIN := Lib.hid (HX4.out.1.appended (by decide) HX4.out.2.1 (Nat.le_trans HBW.out.size HX4.out.2.2) hbx hown6 hg6)
          have HOT := Lib.hid (And.intro (fun u hu => other_kept (t2 := 24) (u := u) (Bs := s) (v' := .slice (some ⟨g, 0, none⟩) (pre.length + 1) cap) (boxed_drew hu hb4) HX4.out.1 (by decide) (by decide) HX4.out.2.1 hg6) (fun u hu => other_kept (t2 := 3) (u := u) (Bs := s + 1) (v' := .slice (some ⟨g, 0, none⟩) (pre.length + 1) cap) (boxed_drew hu hb4) HX4.out.1 (by decide) (by decide) HX4.out.2.1 hg6))
          have HRR := Lib.hid (other_row (v' := .slice (some ⟨g, 0, none⟩) (pre.length + 1) cap) (row_drew hR hb4) HX4.out.1 (by decide) (by decide) HX4.out.2.1 hg6)
          have cv6 := HFIN.out.1.cell
          have cf6 := HFIN.out.1.frozen
          clear hown6 hg6
          refine hK _ _ ?_; clear hK K
          refine wpAnyIn_ready (rs := [5]) (by kernel_rfl) (by simp) ?_
          refine AllReadyIn.cons rfl (fun K hK => ?_) AllReadyIn.nil
          go_simp
          refine hK _ _ ?_; clear hK K
          refine wpAnyIn_done (by kernel_rfl) ?_ _
          exact gstep_end HBW.out HRR.out hb4 HFIN.out HOT.out HPX.out.1
--orders>
  case done =>
    rintro D xs V hD hS ⟨⟨v, hv, hrow, -⟩, hR, hB⟩ hK
    obtain ⟨A, cc, rfl⟩ := own_form hrow
    rw [hS, List.take_of_length_le (by have := HPL.out; omega)] at hrow
    rw [hS] at hv
    have hA0 : A ≠ none := by
      rintro rfl
      obtain ⟨b', o', e, -⟩ := Sl.of_own hrow 0 (.int .u16 (pix[0]'(by have := HPL.out; omega))) (by rw [List.getElem?_map, List.getElem?_eq_getElem (by have := HPL.out; omega)]; rfl)
      cases e
    have HFT := HGD.out
    have HOF := Lib.hid (gridOf_any (c := cc) (W := W) (H := H) (n := N) (l := pix) V (by omega) (by omega) (by omega) (by omega) (by have := HND.out; omega) HND.out.symm (Sl.of_own hrow) (by have := HPL.out; omega) hA0)
    have k0 := row_cell hR 0
    have k1 := row_cell hR 1
    have k2 := hv.cell
    have HBV := Lib.hid hB
    have HKD := Lib.hid hK
    have HDS := Lib.hid hD
    clear hrow hR hB hK hD hv HFT
    gi_wp2_with (gi_at_call 51; refine (callsIn_wide.2 HOF.out).mono ?_; rintro e w' ⟨hb, g, A', c', rfl, hga⟩)
    have hDl : D < V.heap.size := (Array.getElem?_eq_some_iff.1 HKD.out).1
    have hKw : w'.heap[D]? = some (.deferred (some [])) := (hb.block D hDl).trans HKD.out
    have hle : w.heap.size ≤ V.heap.size := HBV.out.size
    refine ⟨by simp, .inl ⟨_, _, rfl, run_takeDeferred hKw, ?_⟩⟩
    refine ⟨_, results_tmp2 rfl _ _ _, (HBV.out.trans (hb.mono hle)).trans (belowK_b (w := w) (Nat.le_refl _) w' D _ _ (Nat.le_trans HBW5.out.size HDS.out) hKw rfl rfl), g, A', c', rfl, ?_⟩
    exact ⟨(World.putObj_heap_other (by have := hga.new; omega)).trans hga.row, Nat.le_trans hle hga.new, ownsRow_putObj (own_mono hga.own hle) _ hKw rfl⟩
end Go.Proofs.YtbmlopklhgladaaDoor.Pnm
