/-
  Texts of this claim, joined by program (IflE, IflF). Walks: the program's inflate: dynamic.
-/
import Derived.Test.YtmgbjgjlddifaaaGreatZG29
import Derived.Great.BuildSlice
import Derived.Defers
import Derived.Recover
import Derived.Deep.RegionHeld3
set_option linter.unusedVariables false
set_option linter.unusedSimpArgs false
namespace Go.Proofs.YtmgbjgjlddifaaaGreat.Ifl
open Go.RowKit K Bits Pfx Def Wrt Bak Inf

theorem grown_new {w w1 w2 : World} {p : Nat} {row : Option Nat} (h : w.grownBy w1 (some p)) (hg : w1.grownBy w2 row) (hr : ∀ b, row = some b → w.heap.size ≤ b) : w.grownBy w2 (some p) :=
  ⟨hg.os.trans h.os, hg.tape.trans h.tape, hg.output.trans h.output, Nat.le_trans h.size hg.size, fun i hi hne => (hg.block i (Nat.lt_of_lt_of_le hi h.size) (fun e => by have := hr i e.symm; omega)).trans (h.block i hi hne)⟩
theorem IR.other {w w2 : World} {X p : Nat} {A : Option Addr} {c : Nat} {l : List Int} {at_ : Nat} {co : Nat} {most : Int} {base b : Nat} (h : IR w X p A c l at_ none co [] most base) (hg : w.grownBy w2 (some b)) (hb : X < b) : IR w2 X p A c l at_ none co [] most base := by
  have hx := h.lt
  have hp := h.px
  refine ⟨h.rd.keep (hg.block _ h.rd.row.lt (fun e => by injection e with e; omega)) (fun b2 off s e => hg.block b2 (by have := h.ax b2 off s e; omega) (fun e2 => by injection e2 with e2; have := h.ax b2 off s e; omega)), (hg.block X hx (fun e => by injection e with e; omega)).trans h.blk, own_frame h.own (fun g hg2 => by cases hg2), h.px, h.xb, h.ax, Nat.le_trans h.hb hg.size⟩
theorem IR.rebase {w : World} {X p : Nat} {A : Option Addr} {c : Nat} {l : List Int} {at_ : Nat} {co : Nat} {most : Int} {base : Nat} (h : IR w X p A c l at_ none co [] most base) : IR w X p A c l at_ none co [] most w.heap.size := by
  refine ⟨h.rd, h.blk, ⟨h.own.1, ?_⟩, h.px, h.lt, h.ax, Nat.le_refl _⟩
  rcases h.own.2 with z | ⟨g, cap, cur, hv, _⟩
  · exact .inl z
  · cases hv
/-- dynamic's memory in its first loop -/
structure LJ (w W : World) (q X p : Nat) (A : Option Addr) (c : Nat) (l : List Int) (a co : Nat) (most : Int) (base : Nat) (f : Nat → Int) : Prop where
  ir : IR W X p A c l a none co [] most base
  ord : SI W .i64 (some ⟨q, 0, none⟩) 19 ordI
  row : W.rowIs (q + 1) 3 19 (fun j => .int .i64 (f j))
  xq : X < q
  gr : w.grownBy W (some p)
  qw : w.heap.size ≤ q
section
variable {w W W2 : World} {q X p : Nat} {A : Option Addr} {c : Nat} {l : List Int} {a a2 co : Nat} {most : Int} {base : Nat} {f : Nat → Int}
theorem LJ.adv (h : LJ w W q X p A c l a co most base f) (hi : IR W2 X p A c l a2 none co [] most base) (hg : W.grownBy W2 (some p)) : LJ w W2 q X p A c l a2 co most base f := by
  have h1 := h.ir.px
  have h2 := h.xq
  exact ⟨hi, RefT.SI.grown h.ord hg (fun b o s e => by injection e with e; injection e with e; omega), h.row.of_block (hg.block _ h.row.lt (fun e => by injection e with e; omega)), h.xq, h.gr.trans hg, h.qw⟩
theorem LJ.put {g : Nat → Int} (h : LJ w W q X p A c l a co most base f) (o : Nat) (v : Int) (hg : ∀ j, (if j = o then v else f j) = g j) : LJ w (W.setCell ⟨q + 1, o, none⟩ (.int .i64 v)) q X p A c l a co most base g := by
  have hs := set_grown W (q + 1) o (.int .i64 v)
  have h2 := h.xq
  refine ⟨h.ir.other hs (by omega), RefT.SI.grown h.ord hs (fun b o s e => by injection e with e; injection e with e; omega), (h.row.set o (.int .i64 v)).congr (fun j hj => ?_), h2, grown_new h.gr hs (fun b e => by injection e with e; have := h.qw; omega), h.qw⟩
  rw [← hg j]
  split <;> rfl
end
/-- dynamic's memory in its second loop -/
structure LK (w W : World) (X p d : Nat) (A Ad : Option Addr) (c : Nat) (l O : List Int) (a co cd : Nat) (most : Int) (base : Nat) : Prop where
  ir : IR W X p A c l a none co [] most base
  dd : Dd W X p d O Ad cd
  gr : w.grownBy W (some p)
theorem LK.adv {w W W2 : World} {X p d : Nat} {A Ad : Option Addr} {c : Nat} {l O : List Int} {a a2 co cd : Nat} {most : Int} {base : Nat} (h : LK w W X p d A Ad c l O a co cd most base) (hi : IR W2 X p A c l a2 none co [] most base) (hg : W.grownBy W2 (some p)) : LK w W2 X p d A Ad c l O a2 co cd most base :=
  ⟨hi, h.dd.chg (Chg.of_grown hg (fun b e _ => by injection e with e; exact .inr e.symm)), h.gr.trans hg⟩
theorem LK.new {w W W2 : World} {X p d : Nat} {A Ad : Option Addr} {c : Nat} {l O : List Int} {a co cd : Nat} {most : Int} {base : Nat} {row : Option Nat} {ob : Obj} (h : LK w W X p d A Ad c l O a co cd most base) (hg : (W.alloc ob).grownBy W2 row) (hr : ∀ b, row = some b → w.heap.size ≤ b ∧ X < b ∧ b ≠ d ∧ ∀ b2 off s, Ad = some ⟨b2, off, s⟩ → b2 ≠ b) : LK w W2 X p d A Ad c l O a co cd most base := by
  have h0 := (Below.refl W.heap.size W).alloc (Nat.le_refl _) ob
  have hi0 := h.ir.below h0
  have hg2 : ∀ i, i < W.heap.size → row ≠ some i → W2.heap[i]? = W.heap[i]? := fun i hi hne => (hg.block i (by rw [World.size_alloc]; omega) (fun e => hne e.symm)).trans (Below.heap_alloc _ _ _ hi)
  have hx := h.ir.lt
  have hp := h.ir.px
  refine ⟨?_, ⟨h.dd.dc.keep (hg2 d h.dd.dc.row.lt (fun e => (hr d e).2.2.1 rfl)) (fun b off s e hlt => hg2 b hlt (fun e2 => (hr b e2).2.2.2 b off s e rfl)), h.dd.dx, h.dd.dp, h.dd.ax⟩, grown_new (grown_new h.gr (World.grownBy_alloc _ _ none) (fun b e => by cases e)) hg (fun b e => (hr b e).1)⟩
  cases row with
  | none => exact hi0.below ⟨hg.os, hg.tape, hg.output, hg.size, fun i hi => hg.block i hi (by simp)⟩
  | some b => exact hi0.other hg (hr b rfl).2.1
theorem LK.drewN {w W : World} {X p d : Nat} {A Ad : Option Addr} {c : Nat} {l O : List Int} {a co cd : Nat} {most : Int} {base : Nat} (h : LK w W X p d A Ad c l O a co cd most base) (k : Nat) : LK w (W.drewN k) X p d A Ad c l O a co cd most base :=
  LK.adv h (h.ir.drewN k) (grown_drewN (World.grownBy.refl _ _) k)
theorem own_cap2 {w : World} {base e sz n c : Nat} {A : Option Addr} {xs : List Value} (h : w.ownsRow base e sz (.slice A n c) n xs) : n ≤ c := by
  rcases h.2 with ⟨hv, rfl⟩ | ⟨g, cap, cur, hv, _, _, hn, _⟩
  · have := h.1; simp at this; omega
  · injection hv with _ _ hc; omega
theorem LK.below {w W W2 : World} {X p d : Nat} {A Ad : Option Addr} {c : Nat} {l O : List Int} {a co cd : Nat} {most : Int} {base : Nat} (h : LK w W X p d A Ad c l O a co cd most base) (hb : Below W.heap.size W W2) : LK w W2 X p d A Ad c l O a co cd most base :=
  LK.adv h (h.ir.below hb) (grown_below hb _)
theorem Dd.below {w w' : World} {X p d : Nat} {L : List Int} {Ad : Option Addr} {cd : Nat} (h : Dd w X p d L Ad cd) (hb : Below w.heap.size w w') : Dd w' X p d L Ad cd := h.chg (Chg.of_below hb)
theorem ND.dd {w w' : World} {X p d : Nat} {L : List Int} {Ad : Option Addr} {cd : Nat} (h : ND w L d Ad cd w') (hX : X < w.heap.size) (hp : p < w.heap.size) : Dd w' X p d L Ad cd :=
  ⟨h.dc, by have := h.lo; omega, by have := h.lo; omega, fun b off s e => by have := h.al b off s e; omega⟩
def DynP (w : World) (X p : Nat) (A : Option Addr) (c : Nat) (l L D : List Int) (a2 co : Nat) (most : Int) (base : Nat) (e : Ending) (w' : World) : Prop :=
  ∃ dL AL cL dD AD cD, e = .returned (.tuple #[.pointer (some ⟨dL, 0, none⟩), .pointer (some ⟨dD, 0, none⟩)]) ∧ IR w' X p A c l a2 none co [] most base ∧ Dd w' X p dL L AL cL ∧ Dd w' X p dD D AD cD ∧ w.grownBy w' (some p)
set_option maxRecDepth 20000 in
set_option maxHeartbeats 8000000 in
theorem idynamic {X p base : Nat} {A : Option Addr} {c co a : Nat} {l L D O : List Int} {most : Int} (w : World) (H : IR w X p A c l a none co [] most base) (hh : HeadAt l a L D O) (hL : checkedOf L = 0) (hD : checkedOf D = 0) :
    Calls Tryz.prog 54 #[.pointer (some ⟨X, 0, none⟩)] w (DynP w X p A c l L D (a + 71 + (rowBits O (L ++ D)).length) co most base) := by
  have hmk : ∀ w, (Instr.makeSlice 43 (.int .i64 19) (.int .i64 19)).run Tryz.prog w = .ok (.slice (some ⟨w.heap.size, 0, none⟩) 19 19) (w.alloc (.cells (madeCells #[.int .i64 0] 19) 3)) :=
    fun w => run_make_row' (P := Tryz.prog) 43 3 (.int .i64 0) 8 Tryz.underlying43 Cat.infoInt rfl .i64 .i64 19 (by omega) (by omega) w
  have HII := Lib.hid H
  have HH := Lib.hid hh
  have HP := Lib.hid hh.parts
  have HLC := Lib.hid hL
  have HDC := Lib.hid hD
  have hbig := H.rd.data.bigb
  have hle := hh.parts.2.2.2.2.2
  have hxw := H.lt
  clear H hh hL hD
  go_enter Tryz.func54, Tryz.ntmps54
  have HCALL := Lib.hid (itake (n := 5) (kk := 5) w HII.out (by omega) (by omega) rfl HP.out.1)
  go_wp2_with fail
  refine HCALL.out.mono ?_
  rintro e w1 ⟨rfl, hi1, hg1⟩
  have HI1 := Lib.hid hi1
  have HG1 := Lib.hid hg1
  clear hi1 hg1 HII HCALL
  have HCALL := Lib.hid (itake (n := 5) (kk := 5) w1 HI1.out (by omega) (by omega) rfl HP.out.2.1)
  go_wp2_with fail
  refine HCALL.out.mono ?_
  rintro e w2 ⟨rfl, hi2, hg2⟩
  have HI2 := Lib.hid hi2
  have HG2 := Lib.hid (HG1.out.trans hg2)
  clear hi2 hg2 HI1 HG1 HCALL
  have HCALL := Lib.hid (itake (n := 4) (kk := 4) w2 HI2.out (by omega) (by omega) rfl (v := 15) HP.out.2.2.1)
  go_wp2_with fail
  refine HCALL.out.mono ?_
  rintro e w3 ⟨rfl, hi3, hg3⟩
  have HI3 := Lib.hid hi3
  have HG3 := Lib.hid (HG2.out.trans hg3)
  clear hi3 hg3 HI2 HG2 HCALL
  have HOI : Hid ((Tryz.prog.info? 94).map (·.size) = some ordA.size) := by show _ = _; kernel_rfl
  have HO1 : Hid (ordA.all (·.oneCell') = true) := by show _ = _; simp [ordA, Value.oneCell']
  go_upto_region 5 with (refine wpList_store_rowTo rfl 94 (.tmp 7) (.tmp 30) rfl rfl w3.heap.size ordA rfl rfl 94 _ (heap_alloc_new w3 _) HOI.out rfl HO1.out ?_)
  obtain ⟨W4, hW4, hz4, hi4, hg4, ho4⟩ : ∃ W4, W4 = (w3.alloc (.cells #[.int .i64 0, .int .i64 0, .int .i64 0, .int .i64 0, .int .i64 0, .int .i64 0, .int .i64 0, .int .i64 0, .int .i64 0, .int .i64 0, .int .i64 0, .int .i64 0, .int .i64 0, .int .i64 0, .int .i64 0, .int .i64 0, .int .i64 0, .int .i64 0, .int .i64 0] 94)).setRow w3.heap.size ordA ∧ W4.heap.size = w3.heap.size + 1 ∧
      IR W4 X p A c l (a + 14) none co [] most base ∧ w.grownBy W4 (some p) ∧ SI W4 .i64 (some ⟨w3.heap.size, 0, none⟩) 19 ordI := by
    have hb : Below w3.heap.size w3 ((w3.alloc (.cells #[.int .i64 0, .int .i64 0, .int .i64 0, .int .i64 0, .int .i64 0, .int .i64 0, .int .i64 0, .int .i64 0, .int .i64 0, .int .i64 0, .int .i64 0, .int .i64 0, .int .i64 0, .int .i64 0, .int .i64 0, .int .i64 0, .int .i64 0, .int .i64 0, .int .i64 0] 94)).setRow w3.heap.size ordA) := below_setRow ((Below.refl _ w3).alloc (Nat.le_refl _) _) (Nat.le_refl _) _
    refine ⟨_, rfl, by simp [World.setRow], HI3.out.below hb, grown_new HG3.out (grown_below hb none) (fun b e => by cases e), rfl, by decide, fun j u hu => ⟨w3.heap.size, 0, rfl, ?_⟩⟩
    have h := setRow_heap _ w3.heap.size _ ordA _ _ (heap_alloc_new w3 (.cells #[.int .i64 0, .int .i64 0, .int .i64 0, .int .i64 0, .int .i64 0, .int .i64 0, .int .i64 0, .int .i64 0, .int .i64 0, .int .i64 0, .int .i64 0, .int .i64 0, .int .i64 0, .int .i64 0, .int .i64 0, .int .i64 0, .int .i64 0, .int .i64 0, .int .i64 0] 94))
    simp only [World.cell?, h, Nat.zero_add, Option.isSome_none, Bool.false_eq_true, if_false]
    rw [show ordA = (ordI.map (Value.int .i64)).toArray from rfl]
    simpa using hu
  rw [← hW4]
  have HI4 := Lib.hid hi4
  have HG4 := Lib.hid hg4
  have HO4 := Lib.hid ho4
  have hxq : X < w3.heap.size := HI3.out.lt
  have hqw : w.heap.size ≤ w3.heap.size := HG3.out.size
  clear hW4 hi4 hg4 ho4 HI3 HG3 HOI HO1
  generalize w3.heap.size = q at *
  go_upto_region 6 with (fail)
  have HL0 : Hid (LJ w (W4.alloc (.cells (madeCells #[.int .i64 0] 19) 3)) q X p A c l (a + 14) co most base (lenF O 0)) := by
    have h0 := made0 W4 19
    rw [hz4] at h0
    exact ⟨HI4.out.below ((Below.refl _ _).alloc (Nat.le_refl _) _), HO4.out.alloc _, h0.congr (fun j hj => by simp [lenF]), hxq, grown_new HG4.out (World.grownBy_alloc _ _ none) (fun b e => by cases e), hqw⟩
  generalize hW5 : W4.alloc (.cells (madeCells #[.int .i64 0] 19) 3) = W5 at HL0
  try rw [hW5]
  clear hW5 HI4 HG4 HO4 hz4
  go_wp2_with fail
  go_loopw [10, 36] (fun _ s36 wx => ∃ k : Nat, k ≤ 19 ∧ s36 = .int .i64 k ∧ LJ w wx q X p A c l (a + 14 + 3 * k) co most base (lenF O k)) (fun _ s36 _ => 19 - (intOf s36).toNat)
  case atStart => exact ⟨0, by omega, rfl, HL0.out⟩
  case round =>
    clear HL0
    obtain ⟨k, hk, rfl, hlj⟩ := hrel
    have HL := Lib.hid hlj
    clear hlj
    by_cases hlt : k < 19
    · have hd : decide ((k : Int) < 19) = true := decide_eq_true (by omega)
      obtain ⟨go1, go2, go3⟩ := ordI_get ⟨k, hlt⟩
      simp only at go1 go2 go3
      have HST := Lib.hid (fun j => lenF_step (O := O) hlt j)
      have HCALL := Lib.hid (itake (n := 3) (kk := 3) wr HL.out.ir (by omega) (by omega) rfl (HP.out.2.2.2.1 k hlt))
      generalize ordN.getD k 0 = o at *
      generalize O.getD o 0 = v at *
      clear go2
      have GO1 := Lib.hid go1
      clear go1
      obtain ⟨b1, o1, y, e1, hc1, hy, -⟩ := HL.out.ord.cells (i := k) hlt
      injection e1 with e1
      injection e1 with e2 e3
      subst e2 e3
      have hyo := hy.out.symm.trans GO1.out
      injection hyo with hyo
      subst hyo
      rw [Nat.zero_add] at hc1
      have hk0 : (0 : Int) ≤ (k : Int) := by omega
      have hk1 : (k : Int) < 19 := by omega
      have ho0 : (0 : Int) ≤ (o : Int) := by omega
      have ho1 : (o : Int) < 19 := by omega
      go_wp2_with fail
      refine HCALL.out.mono ?_
      rintro e w8 ⟨rfl, hi8, hg8⟩
      have HL8 := Lib.hid (HL.out.adv hi8 hg8)
      clear hi8 hg8 HL HCALL hc1 hy
      have hrc := HL8.out.row.cell (i := o) go3
      have hrf := HL8.out.row.frozen o
      have hrl := HL8.out.row.lt
      generalize lenF O k o = u at hrc
      go_wp2_with fail
      have hl10 := HL8.out.put o v HST.out
      go_roundw
      case rel => exact ⟨k + 1, by omega, by go_num, by rw [show a + 14 + 3 * (k + 1) = a + 14 + 3 * k + 3 by omega]; exact hl10⟩
      case measure => simp [intOf]; omega
    · obtain rfl : k = 19 := by omega
      have hd : decide ((19 : Int) < 19) = false := by decide
      have hso : SI wr .i64 (some ⟨q + 1, 0, none⟩) 19 O := by
        have h := SI.of_row HL.out.row (by decide)
        rwa [lenF_all HH.out.o] at h
      have HCO := Lib.hid (icode (c := 19) wr hso HH.out.chk (by omega) HH.out.mo)
      simp only [Int.cast_ofNat_Int]
      clear hso
      go_wp2_with fail
      refine HCO.out.mono ?_
      rintro e w9 ⟨d, Ad, cd, rfl, hn⟩
      have hbw : w.heap.size ≤ wr.heap.size := HL.out.gr.size
      have hpx := HL.out.ir.px
      have hxr := HL.out.ir.lt
      have HK9 : Hid (LK w w9 X p d A Ad c l O (a + 71) co cd most base) := ⟨HL.out.ir.below hn.bel, ⟨hn.dc, by have := hn.lo; omega, by have := hn.lo; omega, fun b off s e => by have := hn.al b off s e; omega⟩, grown_new HL.out.gr (grown_below hn.bel none) (fun b e => by cases e)⟩
      have hdlo : w.heap.size ≤ d ∧ d < w9.heap.size := ⟨Nat.le_trans hbw hn.lo, hn.dc.row.lt⟩
      have HAH := Lib.hid hn.ah
      have hx9 : X < w9.heap.size := by have := hn.bel.size; omega
      have hw9 : w.heap.size ≤ w9.heap.size := by have := hn.bel.size; omega
      clear hn HL HCO
      go_wp2_with fail
      have hvl : (L ++ D).length = 316 := by rw [List.length_append, HH.out.l, HH.out.d]
      have HVL := Lib.hid hvl
      clear hvl
      generalize hV : L ++ D = V at *
      have HVV := Lib.hid hV
      clear hV
      generalize hq9 : w9.heap.size = H9 at *
      have HQ9 := Lib.hid hq9
      clear hq9
      go_loopw [13] (fun s13 wx => ∃ (k : Nat) (Av : Option Addr) (cv : Nat), k ≤ 316 ∧ s13 = .slice Av k cv ∧ LK w wx X p d A Ad c l O (a + 71 + (rowBits O (V.take k)).length) co cd most base ∧ wx.ownsRow H9 3 1 (.slice Av k cv) k ((V.take k).map (.int .i64)) ∧ H9 ≤ wx.heap.size) (fun s13 _ => 316 - sliceLen s13)
      case atStart => exact ⟨0, none, 0, by omega, rfl, by simpa [rowBits] using HK9.out, World.ownsRow_nil _ _ _ _, by rw [HQ9.out]; exact Nat.le_refl _⟩
      case round =>
        clear HK9
        obtain ⟨k, Av, cv, hk, rfl, hlk, hown, hsz⟩ := hrel
        have HK := Lib.hid hlk
        have HOW := Lib.hid hown
        clear hlk hown
        by_cases hlt : k < 316
        · obtain ⟨v, hv⟩ : ∃ v, V[k]? = some v := ⟨_, List.getElem?_eq_getElem (by rw [HVL.out]; exact hlt)⟩
          have hvm := List.mem_of_getElem? hv
          have hvb := HH.out.row v (by rw [HVV.out]; exact hvm)
          have hus := HH.out.use v (by rw [HVV.out]; exact hvm)
          obtain ⟨s, rfl⟩ := Int.eq_ofNat_of_zero_le hvb.1
          have hs15 := hvb.2
          have hbt := rowBits_at HP.out.2.2.2.2.1 hv
          have hsn := Inf.rowBits_snoc O hv
          rw [Int.toNat_natCast] at hus hbt hsn
          have hdec := decode_n HH.out.chk (by omega) hbt
          have HTAKE := Lib.hid (take_snoc hv)
          generalize hp : (rowBits O (V.take k)).length = pl at *
          generalize hcl : (codeBits O s).length = cl at *
          have HSN : Hid ((rowBits O (V.take (k + 1))).length = pl + cl) := by show _ = _; rw [hsn, List.length_append, hp, hcl]
          have HCALL := Lib.hid (inext wr HK.out.ir HK.out.dd.dc HK.out.dd.dp (fun b off s e => (HK.out.dd.ax b off s e).2) hdec)
          clear hdec hbt hsn hp hcl hv hvm hus hvb
          have hdl : decide ((k : Int) < 316) = true := decide_eq_true (by omega)
          have d16 : ((s : Int) == 16) = false := by simp; omega
          have d17 : ((s : Int) == 17) = false := by simp; omega
          have d18 : ((s : Int) == 18) = false := by simp; omega
          have dmany : decide ((316 : Int) - (k : Int) < 1) = false := decide_eq_false (by omega)
          go_wp2_with fail
          refine HCALL.out.mono ?_
          rintro e w5 ⟨rfl, hi5, hg5⟩
          have HK5 := Lib.hid (HK.out.adv hi5 hg5)
          have HO5 := Lib.hid (own_frame HOW.out (fun g hg => hg5.block g (HOW.out.lt g hg).2 (fun e => by injection e with e; have := (HOW.out.lt g hg).1; omega)))
          have hsz5 : H9 ≤ w5.heap.size := Nat.le_trans hsz hg5.size
          clear hi5 hg5 HK HOW HCALL hsz
          go_wp2_with fail
          go_loopw [13, 96] (fun s8 s14 wx => (s14 = .int .i64 0 ∧ s8 = .slice Av k cv ∧ w5 = wx) ∨ (s14 = .int .i64 1 ∧ ∃ (A2 : Option Addr) (c2 : Nat), s8 = .slice A2 (k + 1) c2 ∧ LK w wx X p d A Ad c l O (a + 71 + pl + cl) co cd most base ∧ wx.ownsRow H9 3 1 (.slice A2 (k + 1) c2) (k + 1) ((V.take (k + 1)).map (.int .i64)) ∧ H9 ≤ wx.heap.size)) (fun _ s14 _ => 1 - (intOf s14).toNat)
          case atStart => exact .inl ⟨rfl, rfl, rfl⟩
          case round =>
            rcases hrel with ⟨rfl, rfl, rfl⟩ | ⟨rfl, A2, c2, rfl, hm7, ho7, hz7⟩
            · go_wp2_with (at_builtin; refine wpList_append_sl _ rfl (.tmp 98) (.tmp 100) _ rfl H9 3 1 8 _ Tryz.underlying43 infoInt rfl (by omega) (.slice Av k cv) k _ rfl (HO5.out.alloc _) _ 1 1 [.int .i64 (s : Int)] rfl rfl (Bld.Sl.new w5 [.int .i64 (s : Int)] _) ?c1 ?c2 ?c3 ?c4 ?_)
              case c1 => simp [Value.oneCell']
              case c2 => unfold maxLen; omega
              case c3 => omega
              case c4 => simp; omega
              intro v' w7 hown7 hg7 hat7
              obtain ⟨A7, c7, rfl⟩ := own_form hown7
              have HO7 : Hid (w7.ownsRow H9 3 1 (.slice A7 (k + 1) c7) (k + 1) ((V.take (k + 1)).map (.int .i64))) := by
                show World.ownsRow _ _ _ _ _ _ _
                rw [HTAKE.out, List.map_append, List.map_take]; exact hown7
              have HK7 : Hid (LK w w7 X p d A Ad c l O (a + 71 + pl + cl) co cd most base) := LK.new HK5.out hg7 (fun b e => by
                have h1 := (HO5.out.lt b e).1
                exact ⟨by omega, by omega, by omega, fun b2 off s2 e2 => by have := HAH.out b2 off s2 e2; omega⟩)
              have hsz7 : H9 ≤ w7.heap.size := by have := hg7.size; rw [World.size_alloc] at this; omega
              clear hown7 hg7 hat7
              go_wp2_with fail
              go_roundw
              case rel => exact .inr ⟨rfl, A7, c7, rfl, HK7.out, HO7.out, hsz7⟩
              case measure => simp [intOf]
            · have HK7 := Lib.hid hm7
              have HO7 := Lib.hid ho7
              clear hm7 ho7
              go_wp2_with fail
              go_roundw
              case rel => exact ⟨k + 1, A2, c2, by omega, rfl, by rw [HSN.out, ← Nat.add_assoc]; exact HK7.out, HO7.out, hz7⟩
              case measure => simp [sliceLen]; omega
        · obtain rfl : k = 316 := by omega
          have hdl : decide ((316 : Int) < 316) = false := by decide
          have ht : V.take 316 = V := List.take_of_length_le (by rw [HVL.out]; omega)
          rw [ht] at HK HOW
          clear ht
          obtain ⟨gr, rfl⟩ : ∃ g, Av = some ⟨g, 0, none⟩ := by
            rcases HOW.out.2 with ⟨hv, h1⟩ | ⟨g, cap, cur, hv, -⟩
            · omega
            · injection hv with hv; exact ⟨g, hv⟩
          have hcr := own_cap2 HOW.out
          have hsi : SI wr .i64 (some ⟨gr, 0, none⟩) 316 V := SI.of_own HOW.out (by decide)
          have hsl : SI wr .i64 (some ⟨gr, 0, none⟩) 286 L := by
            have h := si_take (m := 286) hsi (by omega)
            rw [← HVV.out] at h
            rwa [List.take_left' HH.out.l] at h
          have hsd : SI wr .i64 (some ⟨gr, 286, none⟩) 30 D := by
            have h := si_drop (m := 286) hsi (by omega)
            rw [← HVV.out] at h
            rwa [List.drop_left' HH.out.l, Nat.zero_add] at h
          have HSL := Lib.hid hsl
          have HSD := Lib.hid hsd
          obtain ⟨b9, o9, v9, e9, hc9, hv9, -⟩ := hsl.cells (i := 256) (by omega)
          injection e9 with e9
          injection e9 with e9 e9'
          subst e9 e9'
          rw [Nat.zero_add] at hc9
          have hv0 : (v9 == (0 : Int)) = false := by
            have h := HH.out.stop
            rw [getD_of hv9.out] at h
            simp [h]
          have h1 : (286 : Int) ≤ (cv : Int) := by omega
          have hcr1 : cv ≠ 286 := by omega
          have HK2 := Lib.hid (HK.out.drewN 1)
          clear hsi hsl hsd hv9 HOW
          clear HK2
          go_wp2_with fail
          have HK2 := Lib.hid (LK.below HK.out (Below.refl _ wr).drew)
          have HSL2 := Lib.hid (HSL.out.below (Below.refl _ wr).drew (Nat.le_refl _))
          have HSD2 := Lib.hid (HSD.out.below (Below.refl _ wr).drew (Nat.le_refl _))
          clear hc9 HK HSL HSD
          have q1 : IntKind.i64.wrap (29 + 257) = 286 := by decide
          have q2 : IntKind.i64.wrap 286 = 286 := by decide
          have q3 : (286 : Nat) ≤ cv := by omega
          go_region_with (first
            | (go_at_call 84
               (with_reducible refine (icode _ HSL2.out HLC.out (by omega) HH.out.ml).mono ?_)
               rintro e wx ⟨dL, AL, cL, rfl, hnL⟩
               have HDL := Lib.hid (hnL.dd (X := X) (p := p) HK2.out.ir.lt (by have := HK2.out.ir.lt; omega))
               have HK2 := Lib.hid (LK.below HK2.out hnL.bel)
               have HSD2 := Lib.hid (HSD2.out.below hnL.bel (Nat.le_refl _))
               clear hnL)
            | (go_at_call 84
               (with_reducible refine (icode _ HSD2.out HDC.out (by omega) HH.out.md).mono ?_)
               rintro e wx ⟨dD, AD, cD, rfl, hnD⟩
               have HDD := Lib.hid (hnD.dd (X := X) (p := p) HK2.out.ir.lt (by have := HK2.out.ir.lt; omega))
               have HK2 := Lib.hid (LK.below HK2.out hnD.bel)
               have HDL := Lib.hid (HDL.out.below hnD.bel)
               clear hnD))
          all_goals (
            go_wp2_with fail
            go_ret2
            exact ⟨dL, AL, cL, dD, AD, cD, rfl, HK2.out.ir, HDL.out, HDD.out, HK2.out.gr⟩)
end Go.Proofs.YtmgbjgjlddifaaaGreat.Ifl
set_option linter.unusedVariables false
set_option linter.unusedSimpArgs false
namespace Go.Proofs.YtmgbjgjlddifaaaGreat.Ifl
open Go.RowKit K Bits Pfx Def Wrt Bak Inf

/-- the deferred closure, where the frame returns: it turns nothing -/
theorem catch_idle (p q r : Addr) (w : World) :
    CallsD Tryz.prog 49 #[.pointer (some p), .pointer (some q), .pointer (some r)] .returning w fun e u' w' => e = .returned (.tuple #[]) ∧ u' = .returning ∧ w' = w := by
  refine callsD_of_wpS Tryz.func49 rfl fun c₀ cs hu => ?_
  apply wpS_seq
  apply wpS_region
  simp [wpOpsS, go_sem, recoverD, hu, Tryz.ntmps49, Exit.thenS]
  apply wpS_seq
  apply wpS_region
  simp [wpOpsS, go_sem, Exit.thenS]
  refine wpS_cond (t := false) (by simp [Act.eval, Array.replicate]) ?_
  simp only [Bool.false_eq_true, if_false]
  refine wpS_of_wp ?_
  go_wp2
  cases c₀
  simp_all [bodyPostS, results, Tryz.results49, Exit.thenS]
def NewRC (w : World) (l : List Int) (e : Ending) (w' : World) : Prop :=
  ∃ p A' c', e = .returned (.pointer (some ⟨p, 0, none⟩)) ∧ w.heap.size ≤ p ∧ (∀ b off s, A' = some ⟨b, off, s⟩ → w.heap.size ≤ b ∧ b < w'.heap.size) ∧ Rdr w' p A' c' l 0 false ∧ Below w.heap.size w w' ∧ l.length ≤ c'
set_option maxHeartbeats 400000 in
theorem newReader_cap {A : Option Addr} {n c : Nat} {l : List Int} (w : World) (HA : SI w .u8 A n l) (hwf : ∀ x ∈ l, 0 ≤ x ∧ x < 256) :
    Calls Tryz.prog 48 #[.slice A n c, .bool false] w (NewRC w l) := by
  have Hwf := Lib.hid hwf
  have hbig := HA.bigb
  have hlen := Lib.hid HA.len
  clear hwf
  go_enter Tryz.func48, Tryz.ntmps48
  go_wp2_with fail
  refine (clone_any _ HA).mono ?_
  rintro e w1 ⟨A', c', rfl, hown, hb⟩
  have hcap := own_cap2 hown
  go_wp2_with fail
  refine (order_any _ false).mono ?_
  rintro e w' ⟨rfl, rfl⟩
  generalize hf : (Fn.func (if false = true then 64 else 65)) = fn
  go_wp2
  go_ret
  have hr := World.rowIs_alloc w1 #[.slice A' n c', .int .i64 0, .bool false, .func fn #[] #[]] 136 (rdrF A' l.length c' 0 false) (fun i hi => by
    simp only [List.size_toArray, List.length_cons, List.length_nil] at hi
    rw [hlen.out]
    have : i = 0 ∨ i = 1 ∨ i = 2 ∨ i = 3 := by omega
    rcases this with rfl | rfl | rfl | rfl
    · rfl
    · rfl
    · rfl
    · simp [rdrF, ← hf])
  have hba : ∀ b off s, A' = some ⟨b, off, s⟩ → w.heap.size ≤ b ∧ b < w1.heap.size := fun b off s h => hown.lt b (by rw [h]; rfl)
  refine ⟨w1.heap.size, A', c', rfl, hb.size, fun b off s h => ⟨(hba b off s h).1, by have := (hba b off s h).2; rw [World.size_alloc]; omega⟩, ⟨hr, ?_, ?_, by omega, Hwf.out⟩, hb.alloc hb.size _, by rw [hlen.out]; exact hcap⟩
  · have := (SI.of_own hown (by show _ * 1 ≤ _; omega)).alloc (.cells #[.slice A' n c', .int .i64 0, .bool false, .func fn #[] #[]] 136)
    rwa [hlen.out]
  · intro b off s h
    have := (hba b off s h).2
    omega
/-- Raw's memory: the three results' variables -/
structure RO (w W : World) : Prop where
  bel : Below w.heap.size w W
  r0 : W.heap[w.heap.size]? = some (.cells #[.slice none 0 0] 22 (0, 0))
  r1 : W.heap[w.heap.size + 1]? = some (.cells #[.int .i64 0] 3 (0, 0))
  r2 : W.heap[w.heap.size + 2]? = some (.cells #[.int .i64 0] 24 (0, 0))
theorem RO.lt {w W : World} (h : RO w W) : w.heap.size + 2 < W.heap.size := (Array.getElem?_eq_some_iff.1 h.r2).1
theorem RO.on {w W W2 : World} (h : RO w W) (hb : Below (w.heap.size + 3) W W2) : RO w W2 :=
  ⟨h.bel.trans (hb.mono (by omega)), (hb.block _ (by omega)).trans h.r0, (hb.block _ (by omega)).trans h.r1, (hb.block _ (by omega)).trans h.r2⟩
theorem RO.start (w : World) : RO w (((w.alloc (.cells #[.slice none 0 0] 22)).alloc (.cells #[.int .i64 0] 3)).alloc (.cells #[.int .i64 0] 24)) := by
  refine ⟨(((Below.refl _ _).alloc (Nat.le_refl _) _).alloc (by simp) _).alloc (by simp; omega) _, (Below.heap_alloc _ _ _ (by simp; omega)).trans (heap_two w _ _ _), ?_, ?_⟩
  · have := heap_two (w.alloc (.cells #[.slice none 0 0] 22)) #[.int .i64 0] 3 (.cells #[.int .i64 0] 24)
    rwa [World.size_alloc] at this
  · have := heap_alloc_new ((w.alloc (.cells #[.slice none 0 0] 22)).alloc (.cells #[.int .i64 0] 3)) (.cells #[.int .i64 0] 24)
    rwa [World.size_alloc, World.size_alloc] at this
theorem cell1 {w : World} {q T : Nat} {v : Value} (h : w.heap[q]? = some (.cells #[v] T (0, 0))) : w.cell? ⟨q, 0, none⟩ = some v ∧ w.frozen? ⟨q, 0, none⟩ = false := by simp [World.cell?, World.frozen?, h]
def boolOf : Value → Nat
  | .bool true => 1
  | _ => 0
/-- what is still to be read -/
def Todo (b x : List Int) (m at_ : Nat) (Ao : Option Addr) (o : List Int) : Prop :=
  (∃ p0 r, at_ = 8 * p0 ∧ RestAt x m p0 r ∧ o ++ r = b) ∨
  (at_ = 0 ∧ Ao = none ∧ o = [] ∧ On x m (fixBits b)) ∨
  (at_ = 0 ∧ Ao = none ∧ o = [] ∧ ∃ L D O, GoodC (litsL (psOf b)) 15 L ∧ GoodC (distsL (psOf b)) 15 D ∧ GoodC (rowL (L ++ D)) 7 O ∧ On x m (dynS b L D O))
def IRawP (w : World) (b : List Int) (m : Nat) (e : Ending) (w' : World) : Prop :=
  ∃ A1 c1, e = .returned (.tuple #[.slice A1 b.length c1, .int .i64 (m : Int), .int .i64 0]) ∧ SI w' .u8 A1 b.length b ∧ Below w.heap.size w w' ∧ b.length ≤ c1
theorem grown3 {w W W2 : World} {p : Nat} (hg : W.grownBy W2 (some p)) (hp : w.heap.size + 3 ≤ p) (hw : w.heap.size + 3 ≤ W.heap.size) : Below (w.heap.size + 3) W W2 := (Below.refl _ W).grown hg hw (fun b e => by injection e with e; omega)
theorem IR.lower {w : World} {X p : Nat} {A : Option Addr} {c : Nat} {l : List Int} {at_ : Nat} {Ao : Option Addr} {co : Nat} {o : List Int} {most : Int} {base : Nat} (h : IR w X p A c l at_ Ao co o most base) (hb : X + 1 ≤ base) : IR w X p A c l at_ Ao co o most (X + 1) :=
  ⟨h.rd, h.blk, Def.own_base h.own hb, h.px, by omega, h.ax, by have := h.hb; omega⟩
theorem raw_end {w wr : World} {X p : Nat} {A : Option Addr} {c : Nat} {l : List Int} {at_ : Nat} {Ao : Option Addr} {co : Nat} {o : List Int} {most : Int} (HR : RO w wr) (HI : IR wr X p A c l at_ Ao co o most (X + 1)) (hp : w.heap.size + 3 ≤ X) (hol : o.length ≤ 2000000) (n : Int) :
    ∃ W3, W3 = (((wr.setCell ⟨w.heap.size, 0, none⟩ (.slice Ao o.length co)).setCell ⟨w.heap.size + 1, 0, none⟩ (.int .i64 n)).setCell ⟨w.heap.size + 1 + 1, 0, none⟩ (.int .i64 0)).drew ∧
      W3.cell? ⟨w.heap.size, 0, none⟩ = some (.slice Ao o.length co) ∧ W3.cell? ⟨w.heap.size + 1, 0, none⟩ = some (.int .i64 n) ∧ W3.cell? ⟨w.heap.size + 1 + 1, 0, none⟩ = some (.int .i64 0) ∧
      SI W3 .u8 Ao o.length o ∧ Below w.heap.size w W3 := by
  obtain ⟨c0, f0⟩ := cell1 HR.r0
  obtain ⟨c1, f1⟩ := cell1 HR.r1
  obtain ⟨c2, f2⟩ := cell1 HR.r2
  have n01 : (⟨w.heap.size, 0, none⟩ : Addr).block ≠ (⟨w.heap.size + 1, 0, none⟩ : Addr).block := by show w.heap.size ≠ w.heap.size + 1; omega
  have n02 : (⟨w.heap.size, 0, none⟩ : Addr).block ≠ (⟨w.heap.size + 1 + 1, 0, none⟩ : Addr).block := by show w.heap.size ≠ w.heap.size + 1 + 1; omega
  have n12 : (⟨w.heap.size + 1, 0, none⟩ : Addr).block ≠ (⟨w.heap.size + 1 + 1, 0, none⟩ : Addr).block := by show w.heap.size + 1 ≠ w.heap.size + 1 + 1; omega
  have hlt := HR.lt
  have hb : Below w.heap.size w (((wr.setCell ⟨w.heap.size, 0, none⟩ (.slice Ao o.length co)).setCell ⟨w.heap.size + 1, 0, none⟩ (.int .i64 n)).setCell ⟨w.heap.size + 1 + 1, 0, none⟩ (.int .i64 0)).drew :=
    (((HR.bel.setCell (p := ⟨w.heap.size, 0, none⟩) (Nat.le_refl _) _).setCell (p := ⟨w.heap.size + 1, 0, none⟩) (Nat.le_succ _) _).setCell (p := ⟨w.heap.size + 1 + 1, 0, none⟩) (Nat.le_trans (Nat.le_succ _) (Nat.le_succ _)) _).drew
  refine ⟨_, rfl, ?_, ?_, ?_, ?_, hb⟩
  · show (World.setCell _ _ _).cell? _ = _
    rw [World.cell?_setCell_far _ _ _ _ n02.symm, World.cell?_setCell_far _ _ _ _ n01.symm, World.cell?_setCell_same _ _ _ c0]
  · show (World.setCell _ _ _).cell? _ = _
    rw [World.cell?_setCell_far _ _ _ _ n12.symm, World.cell?_setCell_same (u := .int .i64 0) _ _ _ (by rw [World.cell?_setCell_far _ _ _ _ n01]; exact c1)]
  · show (World.setCell _ _ _).cell? _ = _
    rw [World.cell?_setCell_same (u := .int .i64 0) _ _ _ (by rw [World.cell?_setCell_far _ _ _ _ n12, World.cell?_setCell_far _ _ _ _ n02]; exact c2)]
  · have h3 := ownsRow_setCell_below (ownsRow_setCell_below (ownsRow_setCell_below HI.own (a := ⟨w.heap.size, 0, none⟩) (by show w.heap.size < X + 1; omega) (.slice Ao o.length co)) (a := ⟨w.heap.size + 1, 0, none⟩) (by show w.heap.size + 1 < X + 1; omega) (.int .i64 n)) (a := ⟨w.heap.size + 1 + 1, 0, none⟩) (by show w.heap.size + 1 + 1 < X + 1; omega) (.int .i64 0)
    exact SI.of_own h3.drew (by show _ * 1 ≤ _; omega)
theorem raw_door {w W3 : World} {b : List Int} {m : Nat} {ts : Array Value} {A1 : Option Addr} {c1 : Nat} (h4 : ts[4]? = some (.pointer (some ⟨w.heap.size, 0, none⟩))) (h5 : ts[5]? = some (.pointer (some ⟨w.heap.size + 1, 0, none⟩))) (h6 : ts[6]? = some (.pointer (some ⟨w.heap.size + 1 + 1, 0, none⟩)))
    (z0 : W3.cell? ⟨w.heap.size, 0, none⟩ = some (.slice A1 b.length c1)) (z1 : W3.cell? ⟨w.heap.size + 1, 0, none⟩ = some (.int .i64 (m : Int))) (z2 : W3.cell? ⟨w.heap.size + 1 + 1, 0, none⟩ = some (.int .i64 0))
    (hsi : SI W3 .u8 A1 b.length b) (hb : Below w.heap.size w W3) (hcap : b.length ≤ c1) :
    Leaves Tryz.prog Tryz.f24 ts (IRawP w b m) [{ target := .fn (.func 49) #[.pointer (some ⟨w.heap.size, 0, none⟩), .pointer (some ⟨w.heap.size + 1, 0, none⟩), .pointer (some ⟨w.heap.size + 1 + 1, 0, none⟩)], args := #[] }] .returning W3 := by
  refine leaves_cons (f := 49) (args := #[.pointer (some ⟨w.heap.size, 0, none⟩), .pointer (some ⟨w.heap.size + 1, 0, none⟩), .pointer (some ⟨w.heap.size + 1 + 1, 0, none⟩)]) (by simp) (by simp [go_sem]) ?_
  refine (catch_idle _ _ _ _).mono ?_
  rintro e u' w'' ⟨rfl, rfl, rfl⟩
  simp [Leaves, settle, results, Tryz.results24, go_sem, h4, h5, h6, z0, z1, z2]
  exact ⟨_, _, rfl, hsi, hb, hcap⟩
set_option maxRecDepth 20000 in
set_option maxHeartbeats 16000000 in
theorem iraw {b x : List Int} {m : Nat} {A : Option Addr} {c : Nat} {most : Int} (w : World) (HX : SI w .u8 A x.length x) (hwf : ∀ y ∈ x, 0 ≤ y ∧ y < 256) (hwb : ∀ y ∈ b, 0 ≤ y ∧ y < 256) (htd : Todo b x m 0 none []) (hm : (b.length : Int) ≤ most) (hmb : most ≤ 2000000) :
    Calls Tryz.prog 24 #[.slice A x.length c, .int .i64 most] w (IRawP w b m) := by
  have hmf : ∀ (fn : Fn) (first cap : Array Value) (w : World), (Instr.makeFunc fn first cap).run Tryz.prog w = .ok (.func fn first cap) w := fun _ _ _ _ => rfl
  have HXX := Lib.hid HX
  have HWF := Lib.hid hwf
  have HWB := Lib.hid hwb
  have HTD := Lib.hid htd
  have hbig := HX.bigb
  clear HX hwf hwb htd
  go_enter_defers Tryz.func24, Tryz.ntmps24
  go_wp2_with fail
  have HR0 := Lib.hid (RO.start w)
  generalize (World.alloc (World.alloc (World.alloc w _) _) _) = W at HR0 ⊢
  refine (newReader_cap W (HXX.out.below HR0.out.bel (Nat.le_refl _)) HWF.out).mono ?_
  rintro e w1 ⟨p, A', c', rfl, hpl, hal, hrd, hb1, hcap⟩
  have HR1 := Lib.hid (HR0.out.on (hb1.mono (by have := HR0.out.lt; omega)))
  have HRD := Lib.hid hrd
  have HAL := Lib.hid hal
  have hpl3 : w.heap.size + 3 ≤ p := by have := HR0.out.lt; omega
  have hd0 : decide (most < 0) = false := decide_eq_false (by omega)
  clear hrd hal hb1 HR0
  go_wp2_with fail
  have hpX := HRD.out.row.lt
  have HI0 : Hid (IR (w1.alloc (.cells #[.pointer (some ⟨p, 0, none⟩), .slice none 0 0, .int .i64 most] 99)) w1.heap.size p A' c' x 0 none 0 [] most (w1.heap.size + 1)) := by
    have hb := (Below.refl w1.heap.size w1).alloc (Nat.le_refl _) (.cells #[.pointer (some ⟨p, 0, none⟩), .slice none 0 0, .int .i64 most] 99)
    exact ⟨HRD.out.keep (hb.block _ hpX) (fun b off s e => hb.block b (HAL.out b off s e).2), heap_alloc_new _ _, World.ownsRow_nil _ _ _ _, hpX, by omega, fun b off s e => (HAL.out b off s e).2, by rw [World.size_alloc]; omega⟩
  have HR2 : Hid (RO w (w1.alloc (.cells #[.pointer (some ⟨p, 0, none⟩), .slice none 0 0, .int .i64 most] 99))) := HR1.out.on ((Below.refl _ w1).alloc (by have := HR1.out.lt; omega) _)
  generalize w1.alloc (.cells #[.pointer (some ⟨p, 0, none⟩), .slice none 0 0, .int .i64 most] 99) = W2 at HI0 HR2 ⊢
  clear HR1 HRD HAL
  generalize w1.heap.size = X at *
  have HAZ0 : Hid (W2.cell? ⟨p, 1, none⟩ = some (.int .i64 0)) := HI0.out.rd.row.cell (i := 1) (by omega)
  go_loopw [8] (fun s8 wx => ∃ (f : Bool) (at_ : Nat) (Ao : Option Addr) (co : Nat) (o : List Int), s8 = .bool f ∧ IR wx X p A' c' x at_ Ao co o most (X + 1) ∧ RO w wx ∧ ((f = false ∧ Todo b x m at_ Ao o) ∨ (f = true ∧ o = b ∧ (at_ + 7) / 8 = m)))
    (fun s8 wx => (1 - boolOf s8) * (8 * x.length + 8 - (intOf ((wx.cell? ⟨p, 1, none⟩).getD (.int .i64 0))).toNat))
  case atStart => exact ⟨false, 0, none, 0, [], rfl, HI0.out, HR2.out, .inl ⟨rfl, HTD.out⟩⟩
  case round =>
    clear HI0 HR2 HTD HAZ0
    obtain ⟨f, at_, Ao, co, o, rfl, hir, hro, hcase⟩ := hrel
    have HI := Lib.hid hir
    have HRO := Lib.hid hro
    have HAZ : Hid (wr.cell? ⟨p, 1, none⟩ = some (.int .i64 (at_ : Int))) := hir.rd.row.cell (i := 1) (by omega)
    have hale := hir.rd.le
    clear hir hro
    rcases hcase with ⟨rfl, htd⟩ | ⟨rfl, rfl, hend⟩
    · rcases htd with ⟨p0, r, rfl, hrest, hob⟩ | ⟨rfl, rfl, rfl, hpk⟩ | ⟨rfl, rfl, rfl, L, D, O, hgL, hgD, hgO, hpk⟩
      · obtain ⟨l, d, r', hch, hdr, hl⟩ := hrest.step
        have HCH := Lib.hid hch
        have HDR := Lib.hid hdr
        have HOB := Lib.hid hob
        have hle := hch.le
        have hsh := hch.short
        have hol : (o.length : Int) + (d.length : Int) ≤ most := by
          have : o.length + d.length ≤ b.length := by rw [← hob, ← hdr, List.length_append, List.length_append]; omega
          omega
        clear hrest hch hdr hob
        rcases hl with ⟨rfl, rfl, hlen⟩ | ⟨rfl, hrest⟩
        · have HLEN := Lib.hid hlen
          clear hlen
          have HTK1 := Lib.hid (itake (n := 1) (kk := 1) wr HI.out (by omega) (by omega) rfl (HCH.out.one))
          go_wp2_with fail
          refine HTK1.out.mono ?_
          rintro e w3 ⟨rfl, hi3, hg3⟩
          have HI3 := Lib.hid hi3
          have HR3 := Lib.hid (HRO.out.on (grown3 hg3 hpl3 (by have := HRO.out.lt; omega)))
          clear hi3 hg3 HI HRO HTK1
          have HTK2 := Lib.hid (itake (n := 2) (kk := 2) w3 HI3.out (by omega) (by omega) rfl (HCH.out.kind))
          go_wp2_with fail
          refine HTK2.out.mono ?_
          rintro e w4 ⟨rfl, hi4, hg4⟩
          have HI4 := Lib.hid hi4
          have HR4 := Lib.hid (HR3.out.on (grown3 hg4 hpl3 (by have := HR3.out.lt; omega)))
          clear hi4 hg4 HI3 HR3 HTK2
          have HST := Lib.hid (istored (o := o) w4 HI4.out hcap HCH.out (by omega) hmb)
          go_wp2_with fail
          refine HST.out.mono ?_
          rintro e w5 ⟨A5, c5, rfl, hi5, hb5⟩
          have HI5 := Lib.hid hi5
          have HR5 := Lib.hid (HR4.out.on (hb5 _ hpl3 (by have := HR4.out.lt; omega)))
          clear hi5 hb5 HI4 HR4 HST
          have z5 := HI5.out.rd.row.cell (i := 1) (by omega)
          have Z5 := Lib.hid z5
          clear z5
          go_wp2_with fail
          have hob2 : o ++ d = b := by rw [← HOB.out, ← HDR.out]; simp
          refine ⟨⟨true, _, A5, c5, b, rfl, by rw [← hob2]; exact HI5.out, HR5.out, .inr ⟨rfl, rfl, by rw [HLEN.out]; omega⟩⟩, ?_⟩
          rw [HAZ.out]; simp [boolOf, intOf]; omega
        · have HREST := Lib.hid hrest
          clear hrest
          have HTK1 := Lib.hid (itake (n := 1) (kk := 1) wr HI.out (by omega) (by omega) rfl (HCH.out.one))
          go_wp2_with fail
          refine HTK1.out.mono ?_
          rintro e w3 ⟨rfl, hi3, hg3⟩
          have HI3 := Lib.hid hi3
          have HR3 := Lib.hid (HRO.out.on (grown3 hg3 hpl3 (by have := HRO.out.lt; omega)))
          clear hi3 hg3 HI HRO HTK1
          have HTK2 := Lib.hid (itake (n := 2) (kk := 2) w3 HI3.out (by omega) (by omega) rfl (HCH.out.kind))
          go_wp2_with fail
          refine HTK2.out.mono ?_
          rintro e w4 ⟨rfl, hi4, hg4⟩
          have HI4 := Lib.hid hi4
          have HR4 := Lib.hid (HR3.out.on (grown3 hg4 hpl3 (by have := HR3.out.lt; omega)))
          clear hi4 hg4 HI3 HR3 HTK2
          have HST := Lib.hid (istored (o := o) w4 HI4.out hcap HCH.out (by omega) hmb)
          go_wp2_with fail
          refine HST.out.mono ?_
          rintro e w5 ⟨A5, c5, rfl, hi5, hb5⟩
          have HI5 := Lib.hid hi5
          have HR5 := Lib.hid (HR4.out.on (hb5 _ hpl3 (by have := HR4.out.lt; omega)))
          clear hi5 hb5 HI4 HR4 HST
          have z5 := HI5.out.rd.row.cell (i := 1) (by omega)
          have Z5 := Lib.hid z5
          clear z5
          go_wp2_with fail
          refine ⟨⟨false, _, A5, c5, o ++ d, rfl, HI5.out, HR5.out, .inl ⟨rfl, .inl ⟨p0 + 5 + d.length, r', rfl, HREST.out, by rw [List.append_assoc, HDR.out, HOB.out]⟩⟩⟩, ?_⟩
          rw [HAZ.out, Z5.out]; simp [boolOf, intOf, rdrF]; omega
      · have hrd := fix_read hpk
        have HR := Lib.hid hrd
        have hfl : (fixBits b).length = 3 + (bodyBits fixL fixD (psOf b)).length := by unfold fixBits; rw [List.length_append, putV_length]
        have HFIN : Hid ((0 + 1 + 2 + (bodyBits fixL fixD (psOf b)).length + 7) / 8 = m) := by show _ = _; rw [hpk.len, hfl]
        have HPO := Lib.hid (psOf_ok HWB.out)
        have HUS := Lib.hid (fix_use HPO.out.1)
        have HBB := Lib.hid hrd.2.2
        have HLC := Lib.hid fixL_ok
        have HDC := Lib.hid fixD_ok
        have hl1 := hrd.2.2.le
        clear hrd hpk hfl
        have HTK1 := Lib.hid (itake (n := 1) (kk := 1) (v := 1) wr HI.out (by omega) (by omega) rfl (take_at HR.out.1 (by omega) (by decide)))
        go_wp2_with fail
        refine HTK1.out.mono ?_
        rintro e w3 ⟨rfl, hi3, hg3⟩
        have HI3 := Lib.hid hi3
        have HR3 := Lib.hid (HRO.out.on (grown3 hg3 hpl3 (by have := HRO.out.lt; omega)))
        clear hi3 hg3 HI HRO HTK1
        have HTK2 := Lib.hid (itake (n := 2) (kk := 2) (v := 1) w3 HI3.out (by omega) (by omega) rfl (take_at HR.out.2.1 (by omega) (by decide)))
        go_wp2_with fail
        refine HTK2.out.mono ?_
        rintro e w4 ⟨rfl, hi4, hg4⟩
        have HI4 := Lib.hid hi4
        have HR4 := Lib.hid (HR3.out.on (grown3 hg4 hpl3 (by have := HR3.out.lt; omega)))
        clear hi4 hg4 HI3 HR3 HTK2
        go_wp2_with fail
        refine (ifixed w4).mono ?_
        rintro e w5 ⟨dL, AL, cL, dD, AD, cD, rfl, hnL, hnD⟩
        have hX4 := HI4.out.lt
        have HDL := Lib.hid (hnL.dd (X := X) (p := p) hX4 (by omega))
        have HDD := Lib.hid (hnD.dd (X := X) (p := p) hX4 (by omega))
        have HII := Lib.hid ((HI4.out.below hnL.bel).rebase)
        have HXL := Lib.hid (show X + 1 ≤ w5.heap.size by have := hnL.bel.size; omega)
        have HRR := Lib.hid (HR4.out.on (hnL.bel.mono (by have := HR4.out.lt; omega)))
        clear hnL hnD HI4 HR4 hX4
        have HSY := Lib.hid (isymbols w5 HII.out HDL.out HDD.out HLC.out HDC.out HPO.out.1 HUS.out HBB.out (by rw [HPO.out.2]; exact hm) hmb)
        go_wp2_with fail
        refine HSY.out.mono ?_
        rintro e w7 ⟨A7, c7, rfl, hi7, hc7⟩
        rw [HPO.out.2] at hi7
        have HI7 := Lib.hid (IR.lower hi7 HXL.out)
        have HR7 := Lib.hid (HRR.out.on (hc7.below (by have := HRR.out.lt; omega) (fun i hi => by rcases hi with rfl | rfl <;> omega)))
        clear hi7 hc7 HII HDL HDD HRR HSY
        go_wp2_with fail
        refine ⟨⟨true, _, A7, c7, b, rfl, HI7.out, HR7.out, .inr ⟨rfl, rfl, HFIN.out⟩⟩, ?_⟩
        rw [HAZ.out]; simp [boolOf, intOf]
      · have hrd := dyn_read hgL hgD hgO hpk
        have HR := Lib.hid hrd
        have HPO := Lib.hid (psOf_ok HWB.out)
        have HUS := Lib.hid (dyn_use hgL hgD HPO.out.1)
        have HLC := Lib.hid hgL.chk
        have HDC := Lib.hid hgD.chk
        have hS : 74 + (rowBits O (L ++ D)).length + (bodyBits L D (psOf b)).length = (dynS b L D O).length := by
          unfold dynS dynBits
          have hh : (headBits O).length = 57 := by unfold headBits; rw [head_len]; rfl
          simp only [List.length_append, hh, putV_length]
          omega
        have HFIN : Hid ((0 + 1 + 2 + 71 + (rowBits O (L ++ D)).length + (bodyBits L D (psOf b)).length + 7) / 8 = m) := by show _ = _; rw [hpk.len, ← hS]
        have HBB : Hid (BitsAt x (0 + 1 + 2 + 71 + (rowBits O (L ++ D)).length) (bodyBits L D (psOf b))) := by
          have h := hrd.2.2.2
          rwa [show 74 + (rowBits O (L ++ D)).length = 0 + 1 + 2 + 71 + (rowBits O (L ++ D)).length by omega] at h
        have hl1 := hrd.2.2.2.le
        clear hrd hpk hS hgL hgD hgO
        have HTK1 := Lib.hid (itake (n := 1) (kk := 1) (v := 1) wr HI.out (by omega) (by omega) rfl HR.out.1)
        go_wp2_with fail
        refine HTK1.out.mono ?_
        rintro e w3 ⟨rfl, hi3, hg3⟩
        have HI3 := Lib.hid hi3
        have HR3 := Lib.hid (HRO.out.on (grown3 hg3 hpl3 (by have := HRO.out.lt; omega)))
        clear hi3 hg3 HI HRO HTK1
        have HTK2 := Lib.hid (itake (n := 2) (kk := 2) (v := 2) w3 HI3.out (by omega) (by omega) rfl HR.out.2.1)
        go_wp2_with fail
        refine HTK2.out.mono ?_
        rintro e w4 ⟨rfl, hi4, hg4⟩
        have HI4 := Lib.hid hi4
        have HR4 := Lib.hid (HR3.out.on (grown3 hg4 hpl3 (by have := HR3.out.lt; omega)))
        clear hi4 hg4 HI3 HR3 HTK2
        have HDY := Lib.hid (idynamic w4 HI4.out HR.out.2.2.1 HLC.out HDC.out)
        go_wp2_with fail
        refine HDY.out.mono ?_
        rintro e w5 ⟨dL, AL, cL, dD, AD, cD, rfl, hi5, hdl, hdd, hg5⟩
        have HDL := Lib.hid hdl
        have HDD := Lib.hid hdd
        have HII := Lib.hid hi5.rebase
        have HXL := Lib.hid (show X + 1 ≤ w5.heap.size from hi5.lt)
        have HRR := Lib.hid (HR4.out.on (grown3 hg5 hpl3 (by have := HR4.out.lt; omega)))
        clear hi5 hdl hdd hg5 HI4 HR4 HDY
        have HSY := Lib.hid (isymbols w5 HII.out HDL.out HDD.out HLC.out HDC.out HPO.out.1 HUS.out HBB.out (by rw [HPO.out.2]; exact hm) hmb)
        go_wp2_with fail
        refine HSY.out.mono ?_
        rintro e w7 ⟨A7, c7, rfl, hi7, hc7⟩
        rw [HPO.out.2] at hi7
        have HI7 := Lib.hid (IR.lower hi7 HXL.out)
        have HR7 := Lib.hid (HRR.out.on (hc7.below (by have := HRR.out.lt; omega) (fun i hi => by rcases hi with rfl | rfl <;> omega)))
        clear hi7 hc7 HII HDL HDD HRR HSY
        go_wp2_with fail
        refine ⟨⟨true, _, A7, c7, b, rfl, HI7.out, HR7.out, .inr ⟨rfl, rfl, HFIN.out⟩⟩, ?_⟩
        rw [HAZ.out]; simp [boolOf, intOf]
    · have HID := Lib.hid (HI.out.below (Below.refl _ wr).drew)
      have HROD := Lib.hid (HRO.out.on (((Below.refl _ wr).drew).mono (by have := HRO.out.lt; omega)))
      have HPL : Hid (Calls Tryz.prog 55 #[.pointer (some ⟨p, 0, none⟩)] wr.drew fun e w' => e = .returned (.int .i64 (at_ : Int)) ∧ wr.drew = w') := place_of wr.drew HID.out.rd
      have e4 : IntKind.i64.wrap (m : Int) = (m : Int) := IntWalk.i64_in (m : Int) ⟨by omega, by omega⟩
      have e1 : IntKind.i64.wrap ((at_ : Int) + 7) = (at_ : Int) + 7 := IntWalk.i64_in _ (by omega)
      have e2 : ((at_ : Int) + 7).tdiv 8 = (m : Int) := by rw [Int.tdiv_eq_ediv_of_nonneg (by omega)]; omega
      have e3 : wrap64 (m : Int) = (m : Int) := IntWalk.wrap64_in _ (by omega)
      obtain ⟨⟨x0, x1, x2⟩, -⟩ := HID.out.cells
      obtain ⟨c0, f0⟩ := cell1 HRO.out.r0
      obtain ⟨c1, f1⟩ := cell1 HRO.out.r1
      obtain ⟨c2, f2⟩ := cell1 HRO.out.r2
      have c2x : wr.cell? ⟨w.heap.size + 1 + 1, 0, none⟩ = some (.int .i64 0) := c2
      have f2x : wr.frozen? ⟨w.heap.size + 1 + 1, 0, none⟩ = false := f2
      have c0d : wr.drew.cell? ⟨w.heap.size, 0, none⟩ = some (.slice none 0 0) := c0
      have f0d : wr.drew.frozen? ⟨w.heap.size, 0, none⟩ = false := f0
      clear c2 f2
      go_upto_region 14 with (fail)
      refine wp_region_noPanic ?_
      go_region_with ((go_at_call 55; refine HPL.out.mono ?_; rintro e w' ⟨rfl, rfl⟩))
      all_goals (
        refine NoPanic.normal ?_
        obtain ⟨W3, hW3, z0, z1, z2, hsi3, hb3⟩ := raw_end HRO.out HI.out (by omega) (by omega) (m : Int)
        rw [← hW3]
        have HS3 := Lib.hid hsi3
        have HB3 := Lib.hid hb3
        have HCP := Lib.hid (own_cap2 HI.out.own)
        clear hW3 hsi3 hb3 HI HRO HID HROD HPL c0 c1 c2x f0 f1 f2x c0d f0d x0 x1 x2
        go_wp2_with fail
        refine raw_door ?_ ?_ ?_ z0 z1 z2 HS3.out HB3.out HCP.out <;> rfl)
end Go.Proofs.YtmgbjgjlddifaaaGreat.Ifl
