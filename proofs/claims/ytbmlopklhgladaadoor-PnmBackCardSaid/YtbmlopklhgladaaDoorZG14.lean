/-
  Texts of this claim, joined by program (EncE, Qtl, EncF). Walks: the program's Encode.
-/
import Derived.Test.YtbmlopklhgladaaDoorZG13
import Derived.Test.YtbmlopklhgladaaDoorZG11
import Derived.Deep.DeepCutAuto
import Derived.Deep.CutBlock
import Derived.Test.YtbmlopklhgladaaDoorZG12
import Derived.Deep.Quiet
import Derived.Shelf.SlSortCmp.QuietGrown
import Derived.BigQuiet
import Derived.Deep.RegionHeld3
import Derived.Deep.RegionWith
set_option linter.unusedVariables false
set_option linter.unusedSimpArgs false
namespace Go.Proofs.YtbmlopklhgladaaDoor.Pnm
open Go.RowKit K Ian Ard Hld Go.Shelf

attribute [local go_sem] Oper.semAt_some Stl.wide_fn

def EncP (w : World) (r : Enc) (e : Ending) (w' : World) : Prop :=
  ∃ A c, e = .returned (.tuple #[.slice A r.bytes.length c, .int .i64 r.err]) ∧ w'.ownsRow w.heap.size 5 1 (.slice A r.bytes.length c) r.bytes.length (r.bytes.map (.int .u8)) ∧ Below w.heap.size w w'
/-- the parameters' boxes -/
structure Bx (w : World) (b : Nat) (W H : Int) (P : Option Addr) (pn pc : Nat) (kind top : Int) : Prop where
  img : w.heap[b]? = some (.cells #[.int .i64 W, .int .i64 H, .slice P pn pc] 26 (0, 0))
  kd : Boxed w (b + 1) 3 (.int .i64 kind)
  tp : Boxed w (b + 1 + 1) 3 (.int .i64 top)
theorem Bx.below {w w' : World} {b B : Nat} {W H : Int} {P : Option Addr} {pn pc : Nat} {kind top : Int} (h : Bx w b W H P pn pc kind top) (hb : Below B w w') (hB : b + 1 + 1 < B) : Bx w' b W H P pn pc kind top :=
  ⟨(hb.block _ (by omega)).trans h.img, (hb.block _ (by omega)).trans h.kd, (hb.block _ hB).trans h.tp⟩
theorem bx_new (w : World) (W H : Int) (P : Option Addr) (pn pc : Nat) (kind top : Int) : ∃ W0, ((w.alloc (.cells #[.int .i64 W, .int .i64 H, .slice P pn pc] 26)).alloc (.cells #[.int .i64 kind] 3)).alloc (.cells #[.int .i64 top] 3) = W0 ∧ Bx W0 w.heap.size W H P pn pc kind top ∧ W0.heap.size = w.heap.size + 3 ∧ Below w.heap.size w W0 := by
  obtain ⟨W0, h0, h1, h2, h3, h4, h5⟩ := three_allocs w (.cells #[.int .i64 W, .int .i64 H, .slice P pn pc] 26) (.cells #[.int .i64 kind] 3) (.cells #[.int .i64 top] 3)
  exact ⟨W0, h0, ⟨h1, h2, h3⟩, h4, h5⟩
set_option maxRecDepth 100000 in
set_option maxHeartbeats 2000000 in
theorem pencode_bad {W H kind top : Int} {P : Option Addr} {pn pc : Nat} {pix : List Int} (w : World) (hpn : pn ≤ 140737488351232) (hg : ¬ GoodP W H pn) :
    Calls Tryd.prog 13 #[.agg #[.int .i64 W, .int .i64 H, .slice P pn pc], .int .i64 kind, .int .i64 top] w (EncP w (encM W H pn pix kind top)) := by
  have HD : Hid (encM W H pn pix kind top = ⟨6, []⟩) := by show _ = _; unfold encM; rw [if_pos hg]
  obtain ⟨W0, hW0, hbx, hs, hb⟩ := bx_new w W H P pn pc kind top
  have HG := Lib.hid (grid_bad (pc := pc) (P := P) W0 hpn hg)
  have HB := Lib.hid hb
  have k0 := row_cell hbx.img 0
  have k1 := row_cell hbx.img 1
  have k2 := row_cell hbx.img 2
  clear hbx hb hg
  go_enter Tryd.func13, Tryd.ntmps13
  go_upto_region 1 with (fail)
  try rw [hW0]
  clear hW0
  go_wp2_with (go_at_call 31; refine HG.out.mono ?_; rintro e w' ⟨hb, rfl⟩)
  go_ret2
  rw [HD.out]
  exact ⟨none, 0, rfl, World.ownsRow_nil _ _ _ _, HB.out.trans (hb.mono HB.out.size)⟩
set_option maxRecDepth 100000 in
set_option maxHeartbeats 2000000 in
theorem pencode_out {W H pn pc pb po : Nat} {kind top : Int} {pix : List Int} (w : World) (HP : SI w .u16 (some ⟨pb, po, none⟩) pn pix) (hpc : pn ≤ pc) (hg : GoodP W H pn) (ho : kind < 1 ∨ 6 < kind ∨ top < 1 ∨ 65535 < top) :
    Calls Tryd.prog 13 #[.agg #[.int .i64 W, .int .i64 H, .slice (some ⟨pb, po, none⟩) pn pc], .int .i64 kind, .int .i64 top] w (EncP w (encM W H pn pix kind top)) := by
  have HD : Hid (encM W H pn pix kind top = ⟨2, []⟩) := by show _ = _; unfold encM; rw [if_neg (by simpa using hg), if_pos ho]
  obtain ⟨W0, hW0, hbx, hs, hb⟩ := bx_new w W H (some ⟨pb, po, none⟩) pn pc kind top
  have HG := Lib.hid (grid_any W0 (HP.below hb (Nat.le_refl _)) hpc hg)
  have HB := Lib.hid hb
  have HBX := Lib.hid hbx
  have HS := Lib.hid hs
  have k0 := row_cell hbx.img 0
  have k1 := row_cell hbx.img 1
  have k2 := row_cell hbx.img 2
  clear hbx hb hg HP hs
  go_enter Tryd.func13, Tryd.ntmps13
  go_upto_region 1 with (fail)
  try rw [hW0]
  clear hW0
  go_wp2_with fail
  refine HG.out.mono ?_
  rintro e w1 ⟨hb1, g, A', c', rfl, hga⟩
  have HB1 : Hid (Below w.heap.size w w1) := HB.out.trans (hb1.mono HB.out.size)
  have hbx1 := HBX.out.below hb1 (by rw [HS.out]; omega)
  have kk := hbx1.kd.cell
  have kt := hbx1.tp.cell
  clear hga hb1 hbx1 HBX HB k0 k1 k2 HG
  have HFIN : Hid (EncP w (encM W H pn pix kind top) (.returned (.tuple #[.slice none 0 0, .int .i64 2])) w1) := by show EncP _ _ _ _; rw [HD.out]; exact ⟨none, 0, rfl, World.ownsRow_nil _ _ _ _, HB1.out⟩
  clear HD
  by_cases h1 : kind < 1
  · have d1 : decide (kind < 1) = true := decide_eq_true h1
    clear ho h1
    go_wp2_with fail
    go_ret2
    exact HFIN.out
  have d1 : decide (kind < 1) = false := decide_eq_false h1
  by_cases h2 : 6 < kind
  · have d2 : decide (6 < kind) = true := decide_eq_true h2
    clear ho h1 h2
    go_wp2_with fail
    go_ret2
    exact HFIN.out
  have d2 : decide (6 < kind) = false := decide_eq_false h2
  by_cases h3 : top < 1
  · have d3 : decide (top < 1) = true := decide_eq_true h3
    clear ho h1 h2 h3
    go_wp2_with fail
    go_ret2
    exact HFIN.out
  have d3 : decide (top < 1) = false := decide_eq_false h3
  have d4 : decide (65535 < top) = true := decide_eq_true (by omega)
  clear ho h1 h2 h3
  go_wp2_with fail
  go_ret2
  exact HFIN.out
end Go.Proofs.YtbmlopklhgladaaDoor.Pnm
set_option linter.unusedVariables false
namespace Go.Proofs.YtbmlopklhgladaaDoor.Stl
open Go Go.Sort

section
variable {P : Program} {ops : Array Oper} {md : Region.Mode} {C : World → Prop}
/-- whatever order is picked of the operations up to n -/
def wpAnyC (P : Program) (md : Region.Mode) (ops : Array Oper) (C : World → Prop) (n : Nat) (L : Array Bool → Act → Prop) : Nat → Array Bool → Act → Prop
  | 0, listed, a => L listed a
  | f + 1, listed, a =>
    Region.ready md ops listed ≠ [] ∧ ∀ i ∈ Region.ready md ops listed, i < n ∧ qOp P ops C i (wpAnyC P md ops C n L f (listed.setIfInBounds i true)) a
theorem wpAny_of_headC {n g : Nat} {L : Array Bool → Act → Prop} {Q' : Exit → Act → World → Prop} (hL : ∀ listed a w, C w → L listed a → wpAny P md ops Q' g listed a w) :
    ∀ (f : Nat) (listed : Array Bool) (a : Act) (w : World), C w → wpAnyC P md ops C n L f listed a → wpAny P md ops Q' (f + g) listed a w
  | 0, listed, a, w, hw, h => by rw [Nat.zero_add]; exact hL _ _ _ hw h
  | f + 1, listed, a, w, hw, h => by
    rw [show f + 1 + g = (f + g) + 1 by omega]
    exact ⟨fun h0 => absurd h0 h.1, fun i hi => wpOp_of_qOp hw (fun a' w' hw' h' => wpAny_of_headC hL f _ a' w' hw' h') (h.2 i hi).2⟩
theorem wpAnyC_first {m n i : Nat} {oi : Oper} {v : Value} {L : Array Bool → Act → Prop} (hi : ops[i]? = some oi) (hsel : ∀ (j : Nat) (o : Oper) cs b, ops[j]? = some o → o.op ≠ .select cs b)
    (hs : sinkB md ops m n = true) (hc : Region.chainB md ops n = true) (hn : n < ops.size) (hin : i < n) (hmi : m ≤ i)
    (hdone : ∀ listed a, L listed a → ∀ j ∈ Region.ready md ops listed, n ≤ j) :
    ∀ (f : Nat) (listed : Array Bool) (a : Act), HeadInv md ops n listed →
      (∀ j oj, ops[j]? = some oj → j ≠ i → listed.getD j true = false → (∀ e ∈ oj.after, Region.binds md e = true → e.on ≠ i) → oi.apart ops oj = true) →
      i ∈ Region.ready md ops listed → YieldsIn P ops C oi v a →
      wpAnyC P md ops C n L f (listed.setIfInBounds i true) (a.put oi.dst v) → wpAnyC P md ops C n L (f + 1) listed a := by
  intro f
  induction f with
  | zero =>
    intro listed a inv _ hr hy H
    have hun := (mem_ready.1 hr).1
    refine ⟨fun h => (by rw [h] at hr; cases hr), fun j hj => ?_⟩
    have hjn : j < n := by
      rcases Nat.lt_or_ge j n with h | h
      · exact h
      · exact absurd hj (tail_waits hs hc hn inv _ i rfl hin hmi hun j h)
    refine ⟨hjn, ?_⟩
    by_cases hji : j = i
    · subst hji; exact hy.qOp hi H
    · have := hdone _ _ H j (ready_mono hj hji)
      omega
  | succ f ih =>
    intro listed a inv hfree hr hy H
    have hun := (mem_ready.1 hr).1
    refine ⟨fun h => (by rw [h] at hr; cases hr), fun j hj => ?_⟩
    have hjn : j < n := by
      rcases Nat.lt_or_ge j n with h | h
      · exact h
      · exact absurd hj (tail_waits hs hc hn inv _ i rfl hin hmi hun j h)
    refine ⟨hjn, ?_⟩
    by_cases hji : j = i
    · subst hji; exact hy.qOp hi H
    · have h1 := (H.2 j (ready_mono hj hji)).2
      obtain ⟨hjun, oj, hoj, hall⟩ := mem_ready.1 hj
      have hnot : ∀ e ∈ oj.after, Region.binds md e = true → e.on ≠ i := fun e he hb heq => by
        have h1 := hall e he hb
        rw [heq, getD_both hun] at h1
        cases h1
      have h2 := qOp_put hoj (hfree j oj hoj hji hjun hnot) (fun cs b => hsel i oi cs b hi) (fun cs b => hsel j oj cs b hoj) hy h1
      have hfree' : ∀ k ok, ops[k]? = some ok → k ≠ i → (listed.setIfInBounds j true).getD k true = false →
          (∀ e ∈ ok.after, Region.binds md e = true → e.on ≠ i) → oi.apart ops ok = true := fun k ok hk hki hun hno => by
        refine hfree k ok hk hki ?_ hno
        by_cases hjk : j = k
        · subst hjk; exact hjun
        · rw [getD_set_ne true hjk] at hun; exact hun
      refine qOp_mono (fun a' h3 => ih (listed.setIfInBounds j true) a' (inv.set hj hjn) hfree' (ready_mono hr (Ne.symm hji)) h3.1 ?_) h2
      rw [Array.setIfInBounds_comm _ _ hji]
      exact h3.2
theorem wpAnyC_lex {m n g : Nat} {Lq : Act → Prop} (hsel : Region.noSelect ops = true) (hs : sinkB md ops m n = true) (hc : Region.chainB md ops n = true) (hn : n < ops.size) :
    ∀ (l : List Oper) (k : Nat) (listed : Array Bool) (a : Act), (∀ j, j < l.length → l[j]? = ops[k + j]?) → k + l.length = n → m ≤ k → HeadInv md ops n listed →
    Region.lexHead md ops g l.length k listed = true → wpQuiet P ops C Lq l a →
    wpAnyC P md ops C n (fun listed' a' => Region.seqB md ops g n listed' = true ∧ Lq a') l.length listed a
  | [], k, listed, a, _, hk, _, _, hB, h => by
    have : k = n := by simpa using hk
    subst this
    exact ⟨by simpa [Region.lexHead] using hB, h⟩
  | o :: l, k, listed, a, hl, hk, hmk, inv, hB, h => by
    have h0 : ops[k]? = some o := by simpa using (hl 0 (by simp)).symm
    simp only [List.length_cons, Region.lexHead, Bool.and_eq_true] at hB
    obtain ⟨⟨hr, hf⟩, hB'⟩ := hB
    have hkn : k < n := by simp only [List.length_cons] at hk; omega
    have hr' : k ∈ Region.ready md ops listed := by simpa using hr
    have hst : qOp P ops C k (wpQuiet P ops C Lq l) a := by unfold qOp; simp only [h0]; exact h
    obtain ⟨v, hy, hK⟩ := yieldsIn_of_qOp h0 hst
    exact wpAnyC_first h0 (Region.noSelect_spec hsel) hs hc hn hkn hmk (fun listed' a' hL => seqB_ready hL.1) l.length listed a inv (Region.free_spec h0 hf) hr' hy
      (wpAnyC_lex hsel hs hc hn l (k + 1) _ _ (fun j hj => by have := hl (j + 1) (by simp; omega); simpa [Nat.add_assoc, Nat.add_comm 1 j] using this) (by simp only [List.length_cons] at hk; omega) (by omega) (inv.set hr' hkn) hB' hK)
theorem wp_region_quiet_tail {id : Nat} {Q : Exit → Act → World → Prop} {a : Act} {w : World} {l : List Oper} (n : Nat) (hm : P.follows .mixedOrders = true) (hB : lexTailB .any l.toArray 0 n (Array.replicate l.length false) = true) (hI : invB .any l.toArray n (Array.replicate l.length false) = true) (hC : C { w with drawn := w.drawn + 1 })
    (h : wpQuiet P l.toArray C (fun a' => ∀ w', C w' → wpList P l.toArray Q (l.drop n) a' w') (l.take n) a) : (Code.region id l.toArray true).wp P Q a w := by
  simp only [lexTailB, Bool.and_eq_true, decide_eq_true_eq] at hB
  obtain ⟨⟨⟨⟨hsel, hn⟩, hs⟩, hc⟩, hlex⟩ := hB
  have hn' : n < l.length := by simpa using hn
  have htl : (l.take n).length = n := by simp; omega
  have hdl : (l.drop n).length = l.toArray.size - n := by simp
  have H := wpAnyC_lex (md := .any) (g := l.toArray.size - n) hsel hs hc hn (l.take n) 0 _ a (fun j hj => by
    have hj' : j < n := by rw [htl] at hj; exact hj
    simp [hj']) (by simpa using htl) (Nat.le_refl _) (inv_of hI) (by rw [htl]; exact hlex) h
  refine wp_region_any hm ?_
  have := wpAny_of_headC (Q' := Q) (g := l.toArray.size - n) (fun listed a' w' hw' hL => by
    have := wpAny_of_seq (md := .any) (Q' := Q) (l.drop n) n listed a' w' (fun j => by simp [List.getElem?_drop]) (by rw [hdl]; exact hL.1) (hL.2 w' hw')
    rwa [hdl] at this) _ _ _ _ hC H
  rw [htl, show n + (l.toArray.size - n) = l.toArray.size by omega] at this
  simpa using this
theorem wp_region_grown_tail {id : Nat} {Q : Exit → Act → World → Prop} {a : Act} {w : World} {l : List Oper} (n : Nat) (hm : P.follows .mixedOrders = true) (hB : lexTailB .any l.toArray 0 n (Array.replicate l.length false) = true) (hI : invB .any l.toArray n (Array.replicate l.length false) = true)
    (h : wpQuiet P l.toArray (fun w' => ∃ p : GrownBy, w' = grow (w.drewN p.n) p.os) (fun a' => ∀ w', (∃ p : GrownBy, w' = grow (w.drewN p.n) p.os) → wpList P l.toArray Q (l.drop n) a' w') (l.take n) a) : (Code.region id l.toArray true).wp P Q a w :=
  wp_region_quiet_tail n hm hB hI ⟨⟨1, #[]⟩, by rw [grow_empty]; rfl⟩ h
end
end Go.Proofs.YtbmlopklhgladaaDoor.Stl
set_option linter.unusedVariables false
set_option linter.unusedSimpArgs false
namespace Go.Proofs.YtbmlopklhgladaaDoor.Pnm
open Go.RowKit K Ian Ard Hld Go.Shelf

attribute [local go_sem] Oper.semAt_some Stl.wide_fn

/-- how it stands while the head is written: the buffer and what lies below it -/
structure Hs (w1 V : World) (bs : List Int) (b : Nat) (W H : Int) (P : Option Addr) (pn pc : Nat) (kind top : Int) : Prop where
  bf : Bf w1 V w1.heap.size w1.heap.size bs
  le : w1.heap.size ≤ V.heap.size
  bx : Bx w1 b W H P pn pc kind top
  lt : b + 1 + 1 < w1.heap.size
  vs : Vars w1
section
variable {w1 V V' : World} {bs : List Int} {b : Nat} {W H : Int} {P : Option Addr} {pn pc : Nat} {kind top : Int}
theorem Hs.below (h : Hs w1 V bs b W H P pn pc kind top) (hb : Below V.heap.size V V') : Hs w1 V' bs b W H P pn pc kind top :=
  ⟨h.bf.old h.le hb, Nat.le_trans h.le hb.size, h.bx, h.lt, h.vs⟩
theorem Hs.drew (h : Hs w1 V bs b W H P pn pc kind top) : Hs w1 V.drew bs b W H P pn pc kind top := h.below (Below.refl _ V).drew
theorem Hs.bxv (h : Hs w1 V bs b W H P pn pc kind top) : Bx V b W H P pn pc kind top := h.bx.below h.bf.bel h.lt
theorem Hs.tab (h : Hs w1 V bs b W H P pn pc kind top) : Lib.TabIs Tryd.prog V "internal/strconv.uint64pow10" .u64 Lib.pow10Tab := (h.vs.belowv h.bf.bel h.vs.len).tab
theorem Hs.im0 (h : Hs w1 V bs b W H P pn pc kind top) : V.cell? ⟨b, 0, none⟩ = some (.int .i64 W) := row_cell h.bxv.img 0
theorem Hs.im1 (h : Hs w1 V bs b W H P pn pc kind top) : V.cell? ⟨b, 1, none⟩ = some (.int .i64 H) := row_cell h.bxv.img 1
theorem Hs.str {ys : List Int} {s : ByteArray} (h : Hs w1 V bs b W H P pn pc kind top) (hs : Lib.byteCells s.data.toList = ys.map (.int .u8)) (hl : bs.length ≤ 100000000) (hl2 : ys.length ≤ 100000000) :
    Calls Tryd.prog 32 #[.pointer (some ⟨w1.heap.size, 0, none⟩), .string s] V fun e w' => (∃ v, e = .returned (.tuple #[v, .nilIface])) ∧ Hs w1 w' (bs ++ ys) b W H P pn pc kind top :=
  (h.bf.str hs h.le hl hl2).mono fun e w' ⟨h1, h2, h3⟩ => ⟨h1, h2, h3, h.bx, h.lt, h.vs⟩
end
theorem own_off {w w' : World} {base e sz n : Nat} {v : Value} {xs : List Value} {row : Option Nat} (h : w.ownsRow base e sz v n xs) (hg : w.grownBy w' row) (hr : ∀ r, row = some r → ∃ o : Obj, w.heap[r]? = some o ∧ o.isCells = false) : w'.ownsRow base e sz v n xs := by
  refine h.kept hg ?_
  rcases h.2 with ⟨rfl, _⟩ | ⟨g, cap, cur, rfl, _, hgb, _⟩
  · exact .inl rfl
  · refine .inr fun e' => ?_
    obtain ⟨o, ho, hc⟩ := hr g (by simpa [Value.ownBlock] using e'.symm)
    rw [hgb] at ho; cases ho; cases hc
theorem bf_from {V6 : World} {B : Nat} (hB : B ≤ V6.heap.size) (f : Nat → List Int) : OwnFrom V6.heap.size (fun (pre : List (Nat × Option Addr × Nat)) V => Bf V6 V B B (f pre.length) ∧ B ≤ V.heap.size) := by
  rintro s V V' row ⟨h, hle⟩ hg hr
  have hr2 : ∀ r, row = some r → ∃ o : Obj, V.heap[r]? = some o ∧ o.isCells = false := fun r e => (hr r e).2
  obtain ⟨hBb, v, lr, hbk, hown, hne⟩ := h.buf
  have hrb : some B ≠ row := fun e => by
    obtain ⟨o, ho, hc⟩ := hr2 B e.symm
    rw [hbk] at ho; cases ho; cases hc
  refine ⟨⟨⟨hBb, v, lr, (hg.block B (Array.getElem?_eq_some_iff.1 hbk).1 hrb).trans hbk, own_off hown hg hr2, hne⟩, h.bel.grown hg hle (fun k e => Nat.le_trans hB (hr k e).1), fun k o hk h1 h2 => ?_⟩, Nat.le_trans hle hg.size⟩
  have h3 := h.oth k o hk h1 h2
  refine (hg.block k (Array.getElem?_eq_some_iff.1 h3).1 (fun e => ?_)).trans h3
  have h4 := (hr k e.symm).1
  have h5 := (Array.getElem?_eq_some_iff.1 hk).1
  omega
theorem sl_from {γ : Type} {B : Nat} (Pr : List γ → Prop) (A : Option Addr) (xs : List Value) : OwnFrom B (fun (pre : List γ) V => Pr pre ∧ Sl V A xs) := by
  rintro s V V' row ⟨h1, h⟩ hg hr
  refine ⟨h1, fun j u hu => ?_⟩
  obtain ⟨b, o, e, hc⟩ := h j u hu
  refine ⟨b, o, e, ?_⟩
  have hlt := World.block_lt_of_cell? V _ hc
  obtain ⟨ob, ho, hoc⟩ := cells_of_cell hc
  have hk := hg.block b hlt (fun e' => by
    obtain ⟨-, o2, ho2, hc2⟩ := hr b e'.symm
    rw [ho] at ho2; cases ho2; rw [hoc] at hc2; cases hc2)
  unfold World.cell? at hc ⊢
  simp only [hk]
  exact hc
theorem own4_form {w : World} {base n c : Nat} {A : Option Addr} {xs : List Value} (h : w.ownsRow base 45 4 (.slice A n c) n xs) (hn : 0 < n) : ∃ ab cs, A = some ⟨ab, 0, none⟩ ∧ n ≤ c ∧ w.heap[ab]? = some (.cells cs 45 (0, 0)) := by
  rcases h.2 with ⟨_, h0⟩ | ⟨g, cap, cur, hv, h1, h2, h3, h4, h5⟩
  · omega
  · injection hv with e1 e2 e3
    subst e1 e3
    exact ⟨g, cur, rfl, h3, h2⟩
theorem sl_four {w : World} {A : Option Addr} {l : List Int} {x : Nat} (h : Sl w A (l.map (.int .u16))) (hx : 4 * x + 3 < l.length) : ∃ b o, A = some ⟨b, o, none⟩ ∧ w.cell? ⟨b, o + x * 4, none⟩ = some (.int .u16 (l.getD (4 * x) 0)) ∧ w.cell? ⟨b, o + x * 4 + 1, none⟩ = some (.int .u16 (l.getD (4 * x + 1) 0)) ∧ w.cell? ⟨b, o + x * 4 + 2, none⟩ = some (.int .u16 (l.getD (4 * x + 2) 0)) ∧ w.cell? ⟨b, o + x * 4 + 3, none⟩ = some (.int .u16 (l.getD (4 * x + 3) 0)) := by
  have hg : ∀ j, j < l.length → (l.map (Value.int .u16))[j]? = some (.int .u16 (l.getD j 0)) := fun j hj => by rw [List.getElem?_map, List.getD_eq_getElem?_getD, List.getElem?_eq_getElem hj]; rfl
  obtain ⟨b, o, rfl, h0⟩ := h (4 * x) _ (hg _ (by omega))
  have hc : ∀ j, j < l.length → w.cell? ⟨b, o + j, none⟩ = some (.int .u16 (l.getD j 0)) := fun j hj => by
    obtain ⟨b', o', e, hc⟩ := h j _ (hg j hj)
    injection e with e
    injection e with e1 e2
    subst e1 e2
    exact hc
  refine ⟨b, o, rfl, ?_, ?_, ?_, ?_⟩
  · rw [Nat.mul_comm x 4]; exact hc _ (by omega)
  · rw [Nat.mul_comm x 4, Nat.add_assoc]; exact hc _ (by omega)
  · rw [Nat.mul_comm x 4, Nat.add_assoc]; exact hc _ (by omega)
  · rw [Nat.mul_comm x 4, Nat.add_assoc]; exact hc _ (by omega)
theorem rowC_getD {pix : List Int} {W y i : Nat} (hi : i < 4 * W) : (rowC pix W y).getD i 0 = pix.getD (4 * (y * W) + i) 0 := by
  unfold rowC
  simp only [List.getD_eq_getElem?_getD, List.getElem?_take, List.getElem?_drop, hi, if_true]
theorem wpListIn_append_sl {F : Fence} {nn : Nat} {P : Program} (w : World) {ops : Array Oper} {rest : List Oper} {o : Oper} {a : Act} {Q : Exit → Act → World → Prop} (hgd : o.guard = none) (s x : Operand) (t : TypeId)
    (ho : o.op = .call { callee := .builtin .append, args := #[s, x], argTypes := #[t, t] })
    (base e size bytes : Nat) (z : Value) (ht : P.underlying t = some (.slice e)) (hinfo : (P.info? e).map (fun i => (i.zero, i.size, i.bytes)) = some (some z, size, bytes)) (hzs : z.cells.size = size) (hsz : 0 < size)
    (v : Value) (n : Nat) (xs : List Value) (hs : a.eval s = v) (hown : w.ownsRow base e size v n xs)
    (A : Option Addr) (m c : Nat) (news : List Value) (hx : a.eval x = .slice A m c) (hl : news.length = m * size) (hm : 0 < m) (hr : Sl w A news) (h1 : ∀ u ∈ news, u.oneCell' = true)
    (h63 : n + m ≤ maxLen) (hbytes : (n + m) * bytes ≤ 140737488355328) (hbase : base ≤ w.heap.size)
    (h : ∀ v' w', w'.ownsRow base e size v' (n + m) (xs ++ news) → w.grownBy w' v.ownBlock → wpListIn F nn P ops Q rest (a.put o.dst v') w') : wpListIn F nn P ops Q (o :: rest) a w := by
  obtain ⟨i, hi, hz, hz1, hz2⟩ := info_parts hinfo
  have h0 : 0 < news.length := by rw [hl]; exact Nat.mul_pos hm hsz
  obtain ⟨b, off, rfl, _⟩ := hr 0 news[0] (List.getElem?_eq_getElem h0)
  refine wpListIn_append_own w hgd s x t ho base e i z size bytes ht hi hz hz1 hz2 hzs hsz v n xs hs hown ⟨b, off, none⟩ m c news hx hl ?_ h1 h63 hbytes hbase (fun v' w' a1 a2 _ => h v' w' a1 a2)
  intro j u hu
  obtain ⟨b', off', e', hc⟩ := hr j u hu
  injection e' with e'
  injection e' with e1 e2
  subst e1 e2
  rw [Addr.add_lit]
  exact hc
theorem stay_own {w0 : World} {base B bb n c : Nat} {A : Option Addr} {l bs : List Int} (h : w0.ownsRow base 3 1 (.slice A n c) n (l.map (.int .i64))) (hn : n ≤ 65536) (hb : Bf w0 w0 B bb bs) : Stay w0 B bb A n l := by
  intro w' _ ho
  have h' : w'.ownsRow base 3 1 (.slice A n c) n (l.map (.int .i64)) := by
    refine ⟨h.1, ?_⟩
    rcases h.2 with h2 | ⟨g, cap, cur, hv, h1, h2, h3⟩
    · exact .inl h2
    · refine .inr ⟨g, cap, cur, hv, h1, ho g _ h2 (fun e => ?_) (fun c fz e => by injection e with _ e; exact absurd e (by decide)), h3⟩
      injection e with e
      subst e
      obtain ⟨-, v, lr, hbk, -⟩ := hb.buf
      rw [hbk] at h2
      injection h2 with h2
      injection h2 with _ h2
      exact absurd h2 (by decide)
  exact SI.of_own h' (by simp only [kb]; omega)
theorem rows_room {pix : List Int} (h : ∀ x ∈ pix, 0 ≤ x ∧ x < 65536) {kind top : Int} (t1 : 1 ≤ top) (t2 : top ≤ 65535) {W H y : Nat} (hy : y ≤ H) (hp : W * H ≤ 65536) (hW : W ≤ 4096) (hH : H ≤ 4096) : (rowsB pix W kind top y).length ≤ 5000000 := by
  have h1 := rowsB_len h (kind := kind) t1 t2 W y
  have h2 : y * (66 * W + 1) ≤ H * (66 * W + 1) := Nat.mul_le_mul_right _ hy
  have h3 : H * (66 * W + 1) = 66 * (W * H) + H := by rw [Nat.mul_add, Nat.mul_one, ← Nat.mul_assoc, Nat.mul_comm H 66, Nat.mul_assoc, Nat.mul_comm H W]
  omega
theorem topB_len {kind top : Int} (t1 : 1 ≤ top) (t2 : top ≤ 65535) : (topB kind top).length ≤ 22 := by
  unfold topB
  split
  · simp
  · have := itoaI_len top (by omega); rw [List.length_append]; simp; omega
/-- what a row's body keeps -/
theorem body_keeps {V6 V X Y : World} {B : Nat} {bs bs2 : List Int} {ks : List Nat} (hV : Bf V6 V B B bs) (hVX : Below V.heap.size V X) (hBX : Bf X X B B bs) (hXY : Bf X Y B B bs2) (hks : ∀ k ∈ ks, k < B ∨ (∃ cs t, V6.heap[k]? = some (.cells cs t (0, 0)) ∧ t ≠ 5 ∧ k ≠ B)) (hB6 : B ≤ V6.heap.size) (hle : B ≤ V.heap.size) :
    KeepsFrom V6.heap.size V Y ∧ KpS ks V Y ∧ Bf V6 Y B B bs2 := by
  refine ⟨⟨Nat.le_trans hVX.size hXY.bel.size, fun k o _ hk ho => ?_⟩, fun k hk => ?_, ⟨hXY.buf, hV.bel.trans ((hVX.mono hle).trans hXY.bel), fun k o hk h1 h2 => ?_⟩⟩
  · have h1 := (hVX.block k (Array.getElem?_eq_some_iff.1 hk).1).trans hk
    refine hXY.oth k o h1 (fun e => ?_) (fun c fz e => by subst e; cases ho)
    injection e with e
    subst e
    obtain ⟨-, v, lr, hbk, -⟩ := hBX.buf
    rw [hbk] at h1; cases h1; cases ho
  · rcases hks k hk with h | ⟨cs, t, h6, ht, hne⟩
    · exact (hXY.bel.block k h).trans (hVX.block k (by omega))
    · have hnc : ∀ c fz, (Obj.cells cs t (0, 0)) ≠ .cells c 5 fz := fun c fz e => by injection e with _ e; exact ht e
      have h7 := hV.oth k _ h6 (fun e => by injection e with e; exact hne e) hnc
      have h8 := (hVX.block k (Array.getElem?_eq_some_iff.1 h7).1).trans h7
      exact (hXY.oth k _ h8 (fun e => by injection e with e; exact hne e) hnc).trans h7.symm
  · have h7 := hV.oth k o hk h1 h2
    have h8 := (hVX.block k (Array.getElem?_eq_some_iff.1 h7).1).trans h7
    exact hXY.oth k o h8 h1 h2
theorem itoa_grown {V0 : World} {m : Nat} {os : Array Obj} {n : Int} (h0 : -9223372036854775808 ≤ n) (h1 : n ≤ 9223372036854775807) (htab : Lib.TabIs Tryd.prog (Sort.grow (V0.drewN m) os) "internal/strconv.uint64pow10" .u64 Lib.pow10Tab) :
    Calls Tryd.prog 33 #[.int .i64 n] (Sort.grow (V0.drewN m) os) fun e w'' => e = .returned (.string ⟨(Lib.itoa n).toArray⟩) ∧ ∃ p : Go.GrownBy, w'' = Sort.grow (V0.drewN p.n) p.os :=
  Calls.grown_of ((Any.strconv_Itoa Shf.laysM171 n h0 h1 _ htab).mono fun e w' ⟨he, k, os', hw⟩ => ⟨he, k, os', hw⟩)
theorem head_cells (W H kind : Int) : Lib.byteCells ((⟨#[80]⟩ ++ ⟨(Lib.itoa kind).toArray⟩ ++ ⟨#[10]⟩ ++ ⟨(Lib.itoa W).toArray⟩ ++ ⟨#[32]⟩ ++ ⟨(Lib.itoa H).toArray⟩ ++ ⟨#[10]⟩ : ByteArray).data.toList) = (headB W H kind).map (.int .u8) := by
  unfold headB itoaI Lib.byteCells
  simp [ByteArray.data_append, Function.comp_def]
theorem top_cells (top : Int) : Lib.byteCells ((⟨(Lib.itoa top).toArray⟩ ++ ⟨#[10]⟩ : ByteArray).data.toList) = (itoaI top ++ [10]).map (.int .u8) := by
  unfold itoaI Lib.byteCells
  simp [ByteArray.data_append, Function.comp_def]
theorem headB_len {W H kind : Int} (hW : 0 ≤ W ∧ W ≤ 65535) (hH : 0 ≤ H ∧ H ≤ 65535) (hk : 0 ≤ kind ∧ kind ≤ 65535) : (headB W H kind).length ≤ 100 := by
  have := itoaI_len W hW
  have := itoaI_len H hH
  have := itoaI_len kind hk
  unfold headB
  simp only [List.length_append, List.length_cons, List.length_nil]
  omega
set_option maxRecDepth 100000 in
set_option maxHeartbeats 4000000 in
theorem pencode_in {W H pn pc pb po : Nat} {kind top : Int} {pix : List Int} (w : World) (HP : SI w .u16 (some ⟨pb, po, none⟩) pn pix) (hwf : ∀ x ∈ pix, 0 ≤ x ∧ x < 65536) (hpc : pn ≤ pc) (hg : GoodP W H pn) (k1 : 1 ≤ kind) (k2 : kind ≤ 6) (t1 : 1 ≤ top) (t2 : top ≤ 65535) (HV : Vars w) :
    Calls Tryd.prog 13 #[.agg #[.int .i64 W, .int .i64 H, .slice (some ⟨pb, po, none⟩) pn pc], .int .i64 kind, .int .i64 top] w (EncP w (encM W H pn pix kind top)) := by
  have HD : Hid (encM W H pn pix kind top = ⟨0, headB W H kind ++ topB kind top ++ rowsB pix W kind top H⟩) := by show _ = _; unfold encM; rw [if_neg (by simpa using hg), if_neg (by omega)]; rfl
  obtain ⟨W0, hW0, hbx, hs, hb⟩ := bx_new w W H (some ⟨pb, po, none⟩) pn pc kind top
  have HG := Lib.hid (grid_any W0 (HP.below hb (Nat.le_refl _)) hpc hg)
  have HGP := Lib.hid hg
  have HB := Lib.hid hb
  have HBX := Lib.hid hbx
  have HS := Lib.hid hs
  have HVV := Lib.hid HV
  have HWF := Lib.hid hwf
  have HPL := Lib.hid HP.len
  have i0 := row_cell hbx.img 0
  have i1 := row_cell hbx.img 1
  have i2 := row_cell hbx.img 2
  have hvb : vb ≤ w.heap.size := HV.len
  clear hbx hb hg HP hs HV hwf
  refine (callsIn_wide (n := 8)).1 (callsIn_of_wp_marks Tryd.func13 rfl trivial ?_ rfl)
  simp only [Tryd.ntmps13, List.size_toArray, List.length_cons, List.length_nil, Nat.reduceAdd, Nat.reduceSub, Array.replicate_succ, Array.replicate_zero, List.push_toArray, List.append_toArray, List.nil_append, List.cons_append]
  gi_upto_region 1 with (fail)
  try rw [hW0]
  clear hW0
  gi_wp2_with fail
  refine (callsIn_wide.2 HG.out).mono ?_
  rintro e w1 ⟨hb1, g, A', c', rfl, hga⟩
  have HB1 : Hid (Below w.heap.size w w1) := HB.out.trans (hb1.mono HB.out.size)
  have HBX1 := Lib.hid (HBX.out.below hb1 (by rw [HS.out]; omega))
  have HGA := Lib.hid hga
  have hlt1 : w.heap.size + 1 + 1 < w1.heap.size := by have := hb1.size; rw [HS.out] at this; omega
  have kk := HBX1.out.kd.cell
  have kt := HBX1.out.tp.cell
  have HV1 := Lib.hid (HVV.out.below HB1.out (Nat.le_refl _))
  have d1 : decide (kind < 1) = false := decide_eq_false (by omega)
  have d2 : decide (6 < kind) = false := decide_eq_false (by omega)
  have d3 : decide (top < 1) = false := decide_eq_false (by omega)
  have d4 : decide (65535 < top) = false := decide_eq_false (by omega)
  have HHS0 : Hid (Hs w1 (w1.alloc (.cells #[.slice none 0 0, .int .i64 0, .int .i8 0] 74)) [] w.heap.size W H (some ⟨pb, po, none⟩) pn pc kind top) :=
    ⟨⟨Lib.fresh_isBuffer 74 5 w1, (Below.refl _ w1).alloc (Nat.le_refl _) _, (Lib.OthersKept.refl _ _ w1).alloc _⟩, by simp, HBX1.out, hlt1, HV1.out⟩
  clear hga hb1 HBX HB i0 i1 i2 HG HVV HS
  gi_upto_region 7 with (fail)
  generalize w1.alloc (.cells #[.slice none 0 0, .int .i64 0, .int .i8 0] 74) = V0 at HHS0 ⊢
  clear kk kt d1 d2 d3 d4
  have hWH : W ≤ 4096 ∧ H ≤ 4096 := by have := HGP.out; unfold GoodP FitsP at this; omega
  have HLH : Hid ((headB W H kind).length ≤ 100) := headB_len (by omega) (by omega) (by omega)
  gi_cut [] from 38 (fun wx => Hid (Hs w1 wx (headB W H kind) w.heap.size W H (some ⟨pb, po, none⟩) pn pc kind top))
  case first =>
    have l1 : (Lib.itoa kind).length ≤ 21 := Lib.itoa_length_le _ (by omega) (by omega)
    have l2 : (Lib.itoa (W : Int)).length ≤ 21 := Lib.itoa_length_le _ (by omega) (by omega)
    have l3 : (Lib.itoa (H : Int)).length ≤ 21 := Lib.itoa_length_le _ (by omega) (by omega)
    have hlt0 : w.heap.size + 1 + 1 < V0.heap.size := Nat.lt_of_lt_of_le hlt1 HHS0.out.le
    have C0 := fun m os => cell_grown (by show w.heap.size < _; omega) HHS0.out.im0 m os
    have C1 := fun m os => cell_grown (by show w.heap.size < _; omega) HHS0.out.im1 m os
    have C2 := fun m os => cell_grown (by show w.heap.size + 1 < _; omega) HHS0.out.bxv.kd.cell m os
    have HTB : Hid (∀ m os, Lib.TabIs Tryd.prog (Sort.grow (V0.drewN m) os) "internal/strconv.uint64pow10" .u64 Lib.pow10Tab) := fun m os => (HHS0.out.below (Shf.below_grow V0 m os)).tab
    refine Stl.wpIn_of_wp ?_
    refine Stl.wp_region_grown_tail 14 (by kernel_rfl) (by kernel_rfl) (by kernel_rfl) ?_
    simp only [List.take_succ_cons, List.take_zero, List.drop_succ_cons, List.drop_zero]
    repeat (first | go_big_quiet_step ((go_at_call 33; exact itoa_grown (by omega) (by omega) (HTB.out _ _))) | quiet_step ((go_at_call 33; exact itoa_grown (by omega) (by omega) (HTB.out _ _))))
    refine wpQuiet_nil ?_
    intro _ hw'
    obtain ⟨⟨nq, osq⟩, hw''⟩ := hw'
    subst hw''
    have HHS := Lib.hid (HHS0.out.below (Shf.below_grow V0 nq osq))
    clear C0 C1 C2 HTB HHS0
    generalize Sort.grow (V0.drewN nq) osq = V1 at HHS ⊢
    go_wp2_with fail
    refine (HHS.out.str (head_cells _ _ _) (by simp) (Nat.le_trans HLH.out (by omega))).mono ?_
    rintro e w' ⟨⟨v, rfl⟩, hhs⟩
    go_wp2_with fail
    go_meet
    exact hhs
  have c2 := hcut.out.bxv.kd.cell
  have c3 := hcut.out.bxv.tp.cell
  clear HHS0
  have HHS1 := Lib.hid hcut.out
  clear hcut
  have e9 : ((kind % 3 != 1) = true ∧ topB kind top = itoaI top ++ [10]) ∨ ((kind % 3 != 1) = false ∧ topB kind top = []) := by
    unfold topB
    by_cases h : kind = 1 ∨ kind = 4
    · exact .inr ⟨by rcases h with h | h <;> simp [h], by rw [if_pos h]⟩
    · exact .inl ⟨by simp; omega, by rw [if_neg h]⟩
  gi_upto_if 55 with (fail)
  gi_cut [] from 53 (fun wx => Hid (Hs w1 wx (headB W H kind ++ topB kind top) w.heap.size W H (some ⟨pb, po, none⟩) pn pc kind top))
  case first =>
    rcases e9 with ⟨e, HT⟩ | ⟨e, HT⟩
    · have HTT := Lib.hid HT
      clear HT
      gi_wp2_with fail
      refine (callsIn_wide.2 (Shf.itoa top (by omega) (by omega) _ HHS1.out.tab)).mono ?_
      rintro e w' ⟨rfl, hb⟩
      have HHS := Lib.hid (HHS1.out.below hb)
      have l1 : (Lib.itoa top).length ≤ 21 := Lib.itoa_length_le _ (by omega) (by omega)
      gi_wp2_with fail
      refine (callsIn_wide.2 (HHS.out.str (top_cells _) (Nat.le_trans HLH.out (by omega)) (by have := itoaI_len top (by omega); rw [List.length_append]; simp; omega))).mono ?_
      rintro e w' ⟨⟨v, rfl⟩, hhs⟩
      gi_wp2_with fail
      gi_meet
      rw [HTT.out]
      exact hhs
    · have HTT := Lib.hid HT
      clear HT
      gi_wp2_with fail
      gi_meet
      rw [HTT.out, List.append_nil]
      exact HHS1
  have HH2 := Lib.hid hcut.out
  clear hcut c2 c3 HHS1 e9
  gi_wp2_with (gi_at_call 34; refine (callsIn_wide.2 (gridRows_any _)).mono ?_; rintro e w' ⟨rfl, rfl⟩)
  have hWH2 : 1 ≤ W ∧ 1 ≤ H ∧ W * H ≤ 65536 ∧ pn = 4 * (W * H) := by
    have := HGP.out
    unfold GoodP FitsP at this
    have e : (W : Int) * (H : Int) = ((W * H : Nat) : Int) := by push_cast; rfl
    have e4 : 4 * (W : Int) * (H : Int) = 4 * ((W * H : Nat) : Int) := by rw [Int.mul_assoc, e]
    omega
  have HPN := Lib.hid hWH2.2.2.2
  replace hWH2 : 1 ≤ W ∧ 1 ≤ H ∧ W * H ≤ 65536 := ⟨hWH2.1, hWH2.2.1, hWH2.2.2.1⟩
  have HH6 := Lib.hid (HH2.out.below ((Below.refl _ wc).alloc (Nat.le_refl _) (.cells #[.pointer (some ⟨g, 0, none⟩)] 68)))
  have hBg : Boxed (wc.alloc (.cells #[.pointer (some ⟨g, 0, none⟩)] 68)) wc.heap.size 68 (.pointer (some ⟨g, 0, none⟩)) := Boxed.new wc _ _
  generalize wc.alloc (.cells #[.pointer (some ⟨g, 0, none⟩)] 68) = V6 at HH6 hBg ⊢
  generalize wc.heap.size = Bg at hBg ⊢
  obtain ⟨ab, acs, rfl, hcap, hach⟩ := own4_form HGA.out.own (Nat.mul_pos hWH2.1 hWH2.2.1)
  have hab : ab < w1.heap.size := (Array.getElem?_eq_some_iff.1 hach).1
  have hgl : g < w1.heap.size := (Array.getElem?_eq_some_iff.1 HGA.out.row).1
  have hG6 : V6.heap[g]? = some (.cells #[.int .i64 W, .int .i64 H, .slice (some ⟨ab, 0, none⟩) (W * H) c'] 110 (0, 0)) := (HH6.out.bf.bel.block g hgl).trans HGA.out.row
  have hA6 : V6.heap[ab]? = some (.cells acs 45 (0, 0)) := (HH6.out.bf.bel.block ab hab).trans hach
  have hS6 : Sl V6 (some ⟨ab, 0, none⟩) (pix.map (.int .u16)) := sl_of_heap (Sl.of_own HGA.out.own) (HH6.out.bf.bel.block ab hab)
  have HSQ := Lib.hid (rows1_held 7 (by omega) V6 hBg hG6 hS6 hcap (by have := HPL.out; have := HPN.out; omega) hWH2.1 hWH2.2.1 hWH2.2.2)
  have HBG := Lib.hid hBg
  have HG6 := Lib.hid hG6
  have HA6 := Lib.hid hA6
  clear hBg hG6 hA6 hS6 hach HH2
  have hB6 : w1.heap.size ≤ V6.heap.size := HH6.out.le
  have hBgne : Bg ≠ w1.heap.size := by
    intro e
    obtain ⟨-, v, lr, hbk, -⟩ := HH6.out.bf.buf
    have h1 : V6.heap[Bg]? = some (.cells #[.pointer (some ⟨g, 0, none⟩)] 68 (0, 0)) := HBG.out
    rw [e, hbk] at h1
    injection h1 with h1
    injection h1 with _ h2
    exact absurd h2 (by decide)
  refine Hld.range_held (w0 := V6) rfl (by omega) (gf := 55) rfl trivial (enters_of Tryd.func55 (by kernel_rfl) rfl) HSQ.out
    (fun h k => h.trans k) (fun V l o o' hl ho hc _ => fun k hk => by
      have hk6 : k < V6.heap.size := by
        have h1 := HBG.out.lt
        simp at hk
        rcases hk with rfl | rfl | rfl <;> omega
      exact World.putObj_heap_other (by omega))
    (Below.refl _ _) (fun _ => rfl)
    (fun pre V => Bf V6 V w1.heap.size w1.heap.size (headB W H kind ++ topB kind top ++ rowsB pix W kind top pre.length) ∧ w1.heap.size ≤ V.heap.size)
    (bf_from hB6 (fun n => headB W H kind ++ topB kind top ++ rowsB pix W kind top n))
    (fun x => by have := sl_from (B := V6.heap.size) (fun pre : List (Nat × Option Addr × Nat) => x.1 = pre.length ∧ x.1 < H) x.2.1 ((rowC pix W x.1).map (.int .u16)); intro s V V' row h hg hr; obtain ⟨⟨a, b⟩, c⟩ := this s V V' row ⟨⟨h.1, h.2.1⟩, h.2.2⟩ hg hr; exact ⟨a, b, c⟩) ⟨⟨by rw [show rowsB pix W kind top ([] : List (Nat × Option Addr × Nat)).length = [] from rfl, List.append_nil]; exact HH6.out.bf.buf, Below.refl _ _, Lib.OthersKept.refl _ _ _⟩, hB6⟩
    (fun x => { tmps := #[.agg #[.int .i64 W, .int .i64 H, .slice (some ⟨pb, po, none⟩) pn pc], .int .i64 kind, .int .i64 top, .pointer (some ⟨w.heap.size, 0, none⟩), .pointer (some ⟨w.heap.size + 1, 0, none⟩), .pointer (some ⟨w.heap.size + 1 + 1, 0, none⟩), .slice none 0 0, .int .i64 0, .pointer (some ⟨g, 0, none⟩), .int .i64 0, .pointer (some ⟨w1.heap.size, 0, none⟩), undef, .slice x.2.1 W x.2.2, undef, undef, undef, .tuple #[.pointer (some ⟨g, 0, none⟩), .int .i64 0], .agg #[.int .i64 W, .int .i64 H, .slice (some ⟨pb, po, none⟩) pn pc], .tuple #[.pointer (some ⟨g, 0, none⟩), .int .i64 0], .pointer (some ⟨g, 0, none⟩), .int .i64 0, .int .i64 0, .bool false, undef, .int .i64 kind, .bool false, .bool false, .int .i64 kind, .bool false, .bool false, .bool false, .int .i64 top, .bool false, .bool false, .bool false, .int .i64 top, .bool false, .bool false, u38, u39, u40, u41, u42, u43, u44, u45, u46, u47, u48, u49, u50, u51, u52, u53, u54, u55, u56, u57, u58, u59, .pointer (some ⟨g, 0, none⟩), .func (.func 55) #[] #[.pointer (some ⟨Bg, 0, none⟩)], .int .i64 x.1, .slice x.2.1 W x.2.2, u64, u65, u66, u67, u68, u69, u70, u71, u72, u73, u74, u75, u76, u77, u78, u79, u80, u81], defers := [] }) ?assign ?body ?done
  case assign =>
    intro l x V K hK
    gi_wp2
    exact hK
  case body =>
    rintro l pre ⟨y, A2, c2⟩ V ⟨hbf, hle⟩ ⟨hy, hyH, hsl⟩
    simp only at hy hyH hsl ⊢
    have HBF := Lib.hid hbf
    have HLE := Lib.hid hle
    have HSL := Lib.hid hsl
    have HY := Lib.hid hy
    have HBV : Hid (Below w1.heap.size w1 V) := HH6.out.bf.bel.trans hbf.bel
    clear hbf hle hsl hy
    gi_wp2_with fail
    gi_loopw [13, 66] (fun sl si wr => ∃ (x : Nat) (A : Option Addr) (c : Nat), x ≤ W ∧ si = .int .i64 x ∧ sl = .slice A (rowS pix W kind top y x).length c ∧ Hid (Below V.heap.size V wr) ∧ Hid (wr.ownsRow V.heap.size 3 1 (.slice A (rowS pix W kind top y x).length c) (rowS pix W kind top y x).length ((rowS pix W kind top y x).map (.int .i64)))) (fun _ si _ => W - (intOf si).toNat)
    case atStart => exact ⟨0, none, 0, by omega, rfl, rfl, Below.refl _ _, World.ownsRow_nil _ _ _ _⟩
    case round =>
      obtain ⟨x, A, c, hx, rfl, rfl, HBR, HOR⟩ := hrel
      by_cases hlt : x < W
      · have d1 : decide ((x : Int) < (W : Int)) = true := decide_eq_true (by omega)
        have hcl : 4 * x + 3 < (rowC pix W y).length := by rw [rowC_len (H := H) (by have := HPL.out; have := HPN.out; omega) hyH]; omega
        obtain ⟨b3, o3, rfl, c0, c1, c2, c3⟩ := sl_four (Sl.below HSL.out HBR.out (Nat.le_refl _)) hcl
        rw [rowC_getD (by omega)] at c0 c1 c2 c3
        have HPS : Hid (rowS pix W kind top y (x + 1) = rowS pix W kind top y x ++ smpsI kind top (pix.getD (4 * (y * W) + 4 * x) 0) (pix.getD (4 * (y * W) + (4 * x + 1)) 0) (pix.getD (4 * (y * W) + (4 * x + 2)) 0)) := by
          show _ = _
          rw [rowS_succ]; unfold pxS; rw [show 4 * (y * W + x) = 4 * (y * W) + 4 * x by omega]; rfl
        have b0 := pix_bd HWF.out (4 * (y * W) + 4 * x)
        have b1 := pix_bd HWF.out (4 * (y * W) + (4 * x + 1))
        have b2 := pix_bd HWF.out (4 * (y * W) + (4 * x + 2))
        generalize pix.getD (4 * (y * W) + 4 * x) 0 = r at c0 b0 HPS
        generalize pix.getD (4 * (y * W) + (4 * x + 1)) 0 = gg at c1 b1 HPS
        generalize pix.getD (4 * (y * W) + (4 * x + 2)) 0 = bb at c2 b2 HPS
        generalize pix.getD (4 * (y * W) + (4 * x + 3)) 0 = aa at c3
        have HSM := Lib.hid (smpsI_len kind top r gg bb)
        have HRL := Lib.hid (rowS_len pix W kind top y x)
        have HBW : Hid (Below w1.heap.size w1 wr) := HBV.out.trans (HBR.out.mono HLE.out)
        clear hcl
        gi_upto_region 16 with (fail)
        have hlw : w1.heap.size ≤ wr.heap.size := HBW.out.size
        have hr3 : (wr.alloc (.cells #[.int .u16 r, .int .u16 gg, .int .u16 bb, .int .u16 aa] 45)).heap[wr.heap.size]? = some (.cells #[.int .u16 r, .int .u16 gg, .int .u16 bb, .int .u16 aa] 45 (0, 0)) := heap_alloc_new wr _
        have hb3 : Below wr.heap.size wr (wr.alloc (.cells #[.int .u16 r, .int .u16 gg, .int .u16 bb, .int .u16 aa] 45)) := (Below.refl _ wr).alloc (Nat.le_refl _) _
        have hor3 := HOR.out.alloc (.cells #[.int .u16 r, .int .u16 gg, .int .u16 bb, .int .u16 aa] 45)
        obtain ⟨cb, hcb⟩ : ∃ cb, wr.heap.size = cb := ⟨_, rfl⟩
        rw [hcb] at hr3 hb3 hlw ⊢
        generalize wr.alloc (.cells #[.int .u16 r, .int .u16 gg, .int .u16 bb, .int .u16 aa] 45) = X at hr3 hb3 hor3 ⊢
        have q0 := row_cell hr3 0
        have q1 := row_cell hr3 1
        have q2 := row_cell hr3 2
        have q3 := row_cell hr3 3
        have HBX3 := HBX1.out.below (HBW.out.trans (hb3.mono hlw)) hlt1
        have ck := HBX3.kd.cell
        have ct := HBX3.tp.cell
        have HOR3 := Lib.hid hor3
        have hlr : V.heap.size ≤ wr.heap.size := HBR.out.size
        have HBR3 : Hid (Below V.heap.size V X) := HBR.out.trans (hb3.mono (by omega))
        clear hr3 hb3 hor3 HBX3 c0 c1 c2 c3 HBR HOR HBW hlr
        gi_wp2_with fail
        refine (callsIn_wide.2 (psmps_any (a := aa) X k1 k2 b0 b1 b2 t1 t2)).mono ?_
        rintro e X1 ⟨hb4, A4, c4, rfl, hs4, -⟩
        have hor4 : X1.ownsRow V.heap.size 3 1 (.slice A (rowS pix W kind top y x).length c) (rowS pix W kind top y x).length ((rowS pix W kind top y x).map (.int .i64)) := own_b HOR3.out hb4
        have HBR4 : Hid (Below V.heap.size V X1) := HBR3.out.trans (hb4.mono HBR3.out.size)
        have HOR4 := Lib.hid hor4
        have HS4 := Lib.hid hs4.sl
        have HNL : Hid ((rowS pix W kind top y (x + 1)).length = (rowS pix W kind top y x).length + (smpsI kind top r gg bb).length) := by show _ = _; rw [HPS.out, List.length_append]
        have HNM : Hid ((rowS pix W kind top y (x + 1)).map (Value.int .i64) = (rowS pix W kind top y x).map (Value.int .i64) ++ (smpsI kind top r gg bb).map (Value.int .i64)) := by show _ = _; rw [HPS.out, List.map_append]
        clear hb4 hs4 hor4 HBR3 HOR3 q0 q1 q2 q3 ck ct
        gi_wp2_with (gi_at_builtin; refine wpListIn_append_sl _ rfl (.tmp 70) (.tmp 74) _ rfl V.heap.size 3 1 8 _ Tryd.underlying55 infoInt rfl (by omega) _ _ _ rfl HOR4.out A4 (smpsI kind top r gg bb).length c4 ((smpsI kind top r gg bb).map (.int .i64)) rfl (by simp) HSM.out.1 HS4.out (ints_oneCell .i64 _) (by have := HSM.out; have := HRL.out; unfold maxLen; omega) (by have := HSM.out; have := HRL.out; omega) HBR4.out.size ?_)
        intro v5 X5 hown5 hg5
        obtain ⟨A5, c5, rfl⟩ := own_form hown5
        have HBR5 : Hid (Below V.heap.size V X5) := HBR4.out.grown hg5 HBR4.out.size (fun k e => (HOR4.out.lt k e).1)
        rw [← HNL.out, ← HNM.out] at hown5
        have HOR5 := Lib.hid hown5
        clear hown5 hg5
        rw [← HNL.out]
        gi_wp2_with fail
        go_roundw
        case rel => exact ⟨x + 1, A5, c5, by omega, by go_num, rfl, HBR5, HOR5⟩
        case measure => simp [intOf]; omega
      · obtain rfl : x = W := by omega
        have d1 : decide ((x : Int) < (x : Int)) = false := by simp
        have hbw : Below w1.heap.size w1 wr := HBV.out.trans (HBR.out.mono HLE.out)
        have HBX3 := HBX1.out.below hbw hlt1
        have ck := HBX3.kd.cell
        have ct := HBX3.tp.cell
        have HBN : Hid (Bf wr wr w1.heap.size w1.heap.size (headB x H kind ++ topB kind top ++ rowsB pix x kind top pre.length)) := ⟨(HBF.out.old HLE.out HBR.out).buf, Below.refl _ _, Lib.OthersKept.refl _ _ _⟩
        have HRL := Lib.hid (rowS_len pix x kind top y x)
        have HLI := Lib.hid (line_any (c := c) (kind := kind) (top := top) wr HBN.out hbw.size (stay_own HOR.out (by have := HRL.out; omega) HBN.out) (HV1.out.belowv hbw (by have := HB1.out.size; omega)) (by have := HB1.out.size; omega) (rowS_bd HWF.out t1 t2 x y x) (fun h => rowS_one h x y x) (by have := HRL.out; omega) (by have := HRL.out; omega) (by
          have h1 := HLH.out
          have h2 := topB_len (kind := kind) t1 t2
          have h3 := rows_room HWF.out (kind := kind) (y := pre.length) t1 t2 (by have := HY.out; omega) hWH2.2.2 hWH.1 hWH.2
          rw [List.length_append, List.length_append]; omega))
        clear hbw HBX3
        gi_wp2_with fail
        refine (callsIn_wide.2 HLI.out).mono ?_
        rintro e Y ⟨rfl, hbY, hleY⟩
        have HFIN := Lib.hid (body_keeps HBF.out HBR.out HBN.out hbY (ks := [Bg, g, ab]) (by
          intro k hk
          simp at hk
          rcases hk with rfl | rfl | rfl
          · exact .inr ⟨_, _, HBG.out, by decide, hBgne⟩
          · exact .inl hgl
          · exact .inl hab) hB6 HLE.out)
        have HLY := Lib.hid hleY
        have HRB : Hid (rowsB pix x kind top (pre ++ [(y, A2, c2)]).length = rowsB pix x kind top pre.length ++ lineI (rowS pix x kind top y x) kind top (rowS pix x kind top y x).length) := by
          show _ = _
          rw [List.length_append, List.length_singleton, rowsB_succ, ← HY.out]; rfl
        clear hbY hleY HLI
        gi_wp2_with fail
        refine ⟨HFIN.out.1, HFIN.out.2.1, ?_, HLY.out⟩
        rw [HRB.out, ← List.append_assoc]
        exact HFIN.out.2.2
  case done =>
    rintro D xs V hD hS ⟨hbf, hle⟩ hK
    rw [hS] at hbf
    have HBY := Lib.hid (Shf.bytes w1.heap.size w1.heap.size _ V hbf.buf)
    have HBV : Hid (Below w.heap.size w V) := HB1.out.trans ((HH6.out.bf.bel.trans hbf.bel).mono HB1.out.size)
    have HKD := Lib.hid hK
    have HDS := Lib.hid hD
    have hwl : w.heap.size ≤ w1.heap.size := HB1.out.size
    clear hbf hK hD
    gi_wp2_with fail
    refine (callsIn_wide.2 HBY.out).mono ?_
    rintro e Y ⟨v, rfl, hown, nq, rfl⟩
    obtain ⟨A, c, rfl⟩ := own_form hown
    have HOW := Lib.hid hown
    have HBN : Hid (Below w.heap.size w (V.drewN nq)) := below_drewN HBV.out nq
    clear hown
    have hKw : (V.drewN nq).heap[D]? = some (.deferred (some [])) := HKD.out
    generalize V.drewN nq = Y at HOW HBN hKw ⊢
    have HKW := Lib.hid hKw
    clear hKw
    gi_wp2_with fail
    refine ⟨by simp, .inl ⟨_, _, rfl, run_takeDeferred HKW.out, ?_⟩⟩
    refine ⟨_, results_tmp2 rfl _ _ _, ?_⟩
    rw [HD.out]
    refine ⟨A, c, by simp, ?_, HBN.out.trans (belowK_b (w := V6) (by omega) Y D _ _ HDS.out HKW.out rfl rfl)⟩
    have h1 := own_mono (ownsRow_putObj HOW.out (.deferred none) HKW.out rfl) hwl
    rw [List.length_map] at h1
    exact h1
end Go.Proofs.YtbmlopklhgladaaDoor.Pnm
