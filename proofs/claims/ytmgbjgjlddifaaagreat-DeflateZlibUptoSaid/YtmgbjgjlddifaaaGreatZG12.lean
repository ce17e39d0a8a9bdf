/-
  Walks: the reference's inflate: match.
-/
import Derived.Test.YtmgbjgjlddifaaaGreatZG6
import Derived.Test.YtmgbjgjlddifaaaGreatZG7
import Derived.Test.YtmgbjgjlddifaaaGreatZG9
import Derived.Deep.DeepCutAuto
import Derived.Deep.RegionLaw
import Derived.Deep.CutBlock
import Derived.Deep.RegionHeld3
import Derived.Test.YtmgbjgjlddifaaaGreatZG11
set_option linter.unusedVariables false
set_option linter.unusedSimpArgs false
namespace Go.Proofs.YtmgbjgjlddifaaaGreat.Inf
open Go.RowKit K Bits Pfx Def Wrt Bak Ref RefR RefT RefX

/-- behind a step that appends to what was written -/
structure OutP (w : World) (Ao : Option Addr) (base : Nat) (out : List Int) (A1 : Option Addr) (c1 : Nat) (w' : World) : Prop where
  own : w'.ownsRow base 5 1 (.slice A1 out.length c1) out.length (out.map (.int .u8))
  chg : Chg w w' (fun x => Wrt.own Ao = some x)
  loc : Wrt.own A1 = Wrt.own Ao ∨ ∀ b, Wrt.own A1 = some b → w.heap.size ≤ b
def MatchP (w : World) (A : Option Addr) (n c a : Nat) (Ao : Option Addr) (base : Nat) (out : List Int) (most : Int) (e : Ending) (w' : World) : Prop :=
  ∃ A1 c1, e = .returned (.agg (stV A n c a A1 out.length c1 most 0)) ∧ OutP w Ao base out A1 c1 w'
/-- what is written of one length and one distance behind the length's symbol -/
def restBits (D : List Int) (p : Pc) : List Int := putV false ((lengthM p.n).2.1 : Nat) (lengthM p.n).2.2 ++ codeBits D (distM p.back).1 ++ putV false ((distM p.back).2.1 : Nat) (distM p.back).2.2
/-- match's memory: the state, the table, the result -/
structure MS (w W : World) (tc : Array Value) (S : Nat → Prop) (A : Option Addr) (n c : Nat) (a : Int) (Ao : Option Addr) (no co : Nat) (most : Int) : Prop where
  chg : Chg w W S
  st : Six W w.heap.size 58 (.slice A n c) (.bool false) (.int .i64 a) (.slice Ao no co) (.int .i64 most) (.int .i64 0)
  tb : W.heap[w.heap.size + 1]? = some (.cells tc 66 (0, 0))
  rs : Six W (w.heap.size + 1 + 1) 58 (.slice none 0 0) (.bool false) (.int .i64 0) (.slice none 0 0) (.int .i64 0) (.int .i64 0)
section
variable {w W W2 : World} {tc : Array Value} {S : Nat → Prop} {A Ao : Option Addr} {n c no co : Nat} {a most : Int}
theorem MS.lt (h : MS w W tc S A n c a Ao no co most) : w.heap.size + 2 < W.heap.size := h.rs.lt
theorem MS.below (h : MS w W tc S A n c a Ao no co most) (hb : Below W.heap.size W W2) : MS w W2 tc S A n c a Ao no co most := by
  have hl := h.lt
  exact ⟨h.chg.trans (Chg.of_below hb) (fun _ _ h => h), h.st.block (hb.block _ (by omega)), (hb.block _ (by omega)).trans h.tb, h.rs.block (hb.block _ (by omega))⟩
theorem MS.store (h : MS w W tc S A n c a Ao no co most) (a2 : Int) (A2 : Option Addr) (no2 co2 : Nat) :
    ∃ W2, W2 = ((((((W.setCell ⟨w.heap.size, 0, none⟩ (.slice A n c)).setCell ⟨w.heap.size, 1, none⟩ (.bool false)).setCell ⟨w.heap.size, 2, none⟩ (.int .i64 a2)).setCell ⟨w.heap.size, 3, none⟩ (.slice A2 no2 co2)).setCell ⟨w.heap.size, 4, none⟩ (.int .i64 most)).setCell ⟨w.heap.size, 5, none⟩ (.int .i64 0)) ∧ MS w W2 tc S A n c a2 A2 no2 co2 most := by
  obtain ⟨W2, e, h1, h2⟩ := h.st.all (.slice A n c) (.bool false) (.int .i64 a2) (.slice A2 no2 co2) (.int .i64 most) (.int .i64 0)
  have hl := h.lt
  exact ⟨W2, e, ⟨h2.os.trans h.chg.os, h2.tape.trans h.chg.tape, h2.output.trans h.chg.output, Nat.le_trans h.chg.size h2.size, fun i hi hn => (h2.block i (Nat.lt_of_lt_of_le hi h.chg.size) (fun e => by injection e with e; omega)).trans (h.chg.block i hi hn)⟩,
    h1, (h2.block _ (by omega) (by simp)).trans h.tb, h.rs.block (h2.block _ (by omega) (by simp; omega))⟩
theorem MS.mono {S2 : Nat → Prop} (h : MS w W tc S A n c a Ao no co most) (hS : ∀ i, S i → S2 i) : MS w W tc S2 A n c a Ao no co most := ⟨h.chg.mono (fun i _ hi => hS i hi), h.st, h.tb, h.rs⟩
theorem MS.out (h : MS w W tc S A n c a Ao no co most) (A2 : Option Addr) (no2 co2 : Nat) : MS w (W.setCell ⟨w.heap.size, 3, none⟩ (.slice A2 no2 co2)) tc S A n c a A2 no2 co2 most := by
  have hl := h.lt
  have hg := set_grown W w.heap.size 3 (.slice A2 no2 co2)
  exact ⟨⟨h.chg.os, h.chg.tape, h.chg.output, Nat.le_trans h.chg.size hg.size, fun i hi hn => (hg.block i (Nat.lt_of_lt_of_le hi h.chg.size) (fun e => by injection e with e; omega)).trans (h.chg.block i hi hn)⟩,
    Six.of_row (h.st.row.set 3 _), (hg.block _ (by omega) (by simp)).trans h.tb, h.rs.block (hg.block _ (by omega) (by simp; omega))⟩
theorem MS.drew (h : MS w W tc S A n c a Ao no co most) : MS w W.drew tc S A n c a Ao no co most := h.below (Below.refl W.heap.size W).drew
theorem MS.grown {row : Option Nat} (h : MS w W tc S A n c a Ao no co most) (hg : W.grownBy W2 row) (hr : ∀ b, row = some b → b < w.heap.size → S b) (hr2 : ∀ b, row = some b → b ≠ w.heap.size ∧ b ≠ w.heap.size + 1 ∧ b ≠ w.heap.size + 2) : MS w W2 tc S A n c a Ao no co most := by
  have hl := h.lt
  exact ⟨⟨hg.os.trans h.chg.os, hg.tape.trans h.chg.tape, hg.output.trans h.chg.output, Nat.le_trans h.chg.size hg.size, fun i hi hn => (hg.block i (Nat.lt_of_lt_of_le hi h.chg.size) (fun e => hn (hr i e.symm hi))).trans (h.chg.block i hi hn)⟩,
    h.st.block (hg.block _ (by omega) (fun e => (hr2 _ e.symm).1 rfl)), (hg.block _ (by omega) (fun e => (hr2 _ e.symm).2.1 rfl)).trans h.tb, h.rs.block (hg.block _ (by omega) (fun e => (hr2 _ e.symm).2.2 rfl))⟩
theorem MS.start (w : World) (tc : Array Value) (S : Nat → Prop) (A : Option Addr) (n c : Nat) (a : Int) (Ao : Option Addr) (no co : Nat) (most : Int) :
    MS w (((w.alloc (.cells #[.slice A n c, .bool false, .int .i64 a, .slice Ao no co, .int .i64 most, .int .i64 0] 58)).alloc (.cells tc 66)).alloc (.cells #[.slice none 0 0, .bool false, .int .i64 0, .slice none 0 0, .int .i64 0, .int .i64 0] 58)) tc S A n c a Ao no co most := by
  refine ⟨Chg.of_below ((((Below.refl _ _).alloc (Nat.le_refl _) _).alloc (by simp) _).alloc (by simp; omega) _), (Below.heap_alloc _ _ _ (by simp; omega)).trans (heap_two w _ _ _), ?_, ?_⟩
  · have := heap_two (w.alloc (.cells #[.slice A n c, .bool false, .int .i64 a, .slice Ao no co, .int .i64 most, .int .i64 0] 58)) tc 66 (.cells #[.slice none 0 0, .bool false, .int .i64 0, .slice none 0 0, .int .i64 0, .int .i64 0] 58)
    rwa [World.size_alloc] at this
  · have := heap_alloc_new ((w.alloc (.cells #[.slice A n c, .bool false, .int .i64 a, .slice Ao no co, .int .i64 most, .int .i64 0] 58)).alloc (.cells tc 66)) (.cells #[.slice none 0 0, .bool false, .int .i64 0, .slice none 0 0, .int .i64 0, .int .i64 0] 58)
    rwa [World.size_alloc, World.size_alloc] at this
end
theorem own_frame {w w' : World} {base e sz n : Nat} {v : Value} {xs : List Value} (h : w.ownsRow base e sz v n xs) (hb : ∀ g, v.ownBlock = some g → w'.heap[g]? = w.heap[g]?) : w'.ownsRow base e sz v n xs := by
  refine ⟨h.1, ?_⟩
  rcases h.2 with hv | ⟨g, cap, cur, hv, h1, h2, h3⟩
  · exact .inl hv
  · exact .inr ⟨g, cap, cur, hv, h1, (hb g (by rw [hv]; rfl)).trans h2, h3⟩
theorem MS.ne {w W : World} {tc : Array Value} {S : Nat → Prop} {A Ao : Option Addr} {n c no co : Nat} {a most : Int} (h : MS w W tc S A n c a Ao no co most) {base m cap : Nat} {g : Nat} {xs : List Value} (ho : W.ownsRow base 5 1 (.slice (some ⟨g, 0, none⟩) m cap) m xs) :
    g ≠ w.heap.size ∧ g ≠ w.heap.size + 1 ∧ g ≠ w.heap.size + 2 := by
  obtain ⟨cur, hc⟩ : ∃ cur, W.heap[g]? = some (.cells cur 5 (0, 0)) := by
    rcases ho.2 with ⟨hv, -⟩ | ⟨g', cap', cur, hv, -, h2, -⟩
    · cases hv
    · injection hv with hv
      injection hv with hv
      injection hv with hv
      subst hv
      exact ⟨cur, h2⟩
  refine ⟨fun e => ?_, fun e => ?_, fun e => ?_⟩
  · subst e
    have := hc.symm.trans h.st
    injection this with this
    injection this with _ h2
    exact absurd h2 (by decide)
  · subst e
    have := hc.symm.trans h.tb
    injection this with this
    injection this with _ h2
    exact absurd h2 (by decide)
  · subst e
    have := hc.symm.trans h.rs
    injection this with this
    injection this with _ h2
    exact absurd h2 (by decide)
theorem Chg.grow2 {w W : World} {S : Nat → Prop} {row : Option Nat} (h : Chg w W S) {W2 : World} (hg : W.grownBy W2 row) (hr : ∀ b, row = some b → b < w.heap.size → S b) : Chg w W2 S :=
  ⟨hg.os.trans h.os, hg.tape.trans h.tape, hg.output.trans h.output, Nat.le_trans h.size hg.size, fun i hi hn => (hg.block i (Nat.lt_of_lt_of_le hi h.size) (fun e => hn (hr i e.symm hi))).trans (h.block i hi hn)⟩
theorem OutP.push {w wr w5 : World} {Ao : Option Addr} {base : Nat} {out out2 : List Int} {g c1 gg cap : Nat} {x : Int} {o : Obj} (h : OutP w Ao base out (some ⟨g, 0, none⟩) c1 wr) (hbw : base ≤ w.heap.size)
    (hown : w5.ownsRow base 5 1 (.slice (some ⟨gg, 0, none⟩) (out.length + 1) cap) (out.length + 1) (out.map (.int .u8) ++ [.int .u8 x])) (hg : (wr.alloc o).drew.grownBy w5 (some g)) (hat : some g = some gg ∨ gg = wr.heap.size + 1)
    (hne : gg ≠ w.heap.size) (hout : out2 = out ++ [x]) (v : Value) : OutP w Ao base out2 (some ⟨gg, 0, none⟩) cap (w5.setCell ⟨w.heap.size, 3, none⟩ v) := by
  subst hout
  have hgs := set_grown w5 w.heap.size 3 v
  have hr : ∀ b, some g = some b → b < w.heap.size → Wrt.own Ao = some b := fun b e hlt => by
    cases e
    rcases h.loc with q | q
    · exact q.symm
    · exact absurd (show w.heap.size ≤ g from q _ rfl) (by omega)
  have hsz := h.chg.size
  refine ⟨?_, ?_, ?_⟩
  · have hl : (out ++ [x]).length = out.length + 1 := by simp
    have hm : (out ++ [x]).map (Value.int .u8) = out.map (.int .u8) ++ [.int .u8 x] := by simp
    rw [hl, hm]
    exact own_frame hown (fun b e => hgs.block b (hown.lt b e).2 (fun q => by cases e; injection q with q; exact hne q))
  · refine Chg.grow2 (Chg.grow2 (h.chg.trans (Chg.of_below (S := fun x => Wrt.own Ao = some x) ((Below.refl _ _).alloc (Nat.le_refl _) _).drew) (fun _ _ h => h)) hg hr) hgs (fun b e hlt => by injection e with e; omega)
  · rcases hat with q | q
    · cases q; exact h.loc
    · exact .inr (fun b e => by cases e; show w.heap.size ≤ gg; omega)
theorem copy_step {w wr w5 : World} {tc : Array Value} {S : Nat → Prop} {A Ao : Option Addr} {n c c1 base g gg cap m : Nat} {a most x : Int} {outj out2 : List Int} {o : Obj} (HO : OutP w Ao base outj (some ⟨g, 0, none⟩) c1 wr) (hbw : base ≤ w.heap.size)
    (hM5 : MS w w5 tc S A n c a (some ⟨g, 0, none⟩) m c1 most) (hlen : outj.length = m)
    (hown5 : w5.ownsRow base 5 1 (.slice (some ⟨gg, 0, none⟩) (m + 1) cap) (m + 1) (outj.map (.int .u8) ++ [.int .u8 x])) (hg5 : (wr.alloc o).drew.grownBy w5 (some g)) (hat5 : some g = some gg ∨ gg = wr.heap.size + 1) (hout : out2 = outj ++ [x]) :
    ∃ (A2 : Option Addr) (c2 : Nat), MS w (w5.setCell ⟨w.heap.size, 3, none⟩ (.slice (some ⟨gg, 0, none⟩) (m + 1) cap)) tc S A n c a A2 (m + 1) c2 most ∧ OutP w Ao base out2 A2 c2 (w5.setCell ⟨w.heap.size, 3, none⟩ (.slice (some ⟨gg, 0, none⟩) (m + 1) cap)) := by
  have hn := (hM5.ne hown5).1
  subst hlen
  exact ⟨_, _, hM5.out _ _ _, OutP.push HO hbw hown5 hg5 hat5 hn hout _⟩
theorem length_put (n : Nat) (v : Nat) : (putV false (v : Int) n).length = n := by simp [putV]
set_option maxRecDepth 20000 in
set_option maxHeartbeats 8000000 in
theorem match_any {lo base : Nat} {D l out : List Int} {tc : Array Value} {A Ao : Option Addr} {c a co : Nat} {most : Int} {p : Pc} (w0 w : World) (HT : Tab lo w0 D tc) (HA : SI w0 .u8 A l.length l) (hwf : ∀ x ∈ l, 0 ≤ x ∧ x < 256)
    (hb : Below w0.heap.size w0 w) (hbase : w0.heap.size ≤ base) (hbw : base ≤ w.heap.size) (hown : w.ownsRow base 5 1 (.slice Ao out.length co) out.length (out.map (.int .u8))) (hD : checkedOf D = 0)
    (g1 : 3 ≤ p.n) (g2 : p.n ≤ 258) (g3 : 1 ≤ p.back) (g4 : p.back ≤ 32768) (g5 : p.back ≤ out.length) (hu : D.getD (distM p.back).1 0 ≠ 0) (hbits : BitsAt l a (restBits D p)) (hmost : (out.length : Int) + p.n ≤ most) (hmb : most ≤ 2000000) :
    Calls Tryz.prog 61 #[.agg (stV A l.length c a Ao out.length co most 0), .int .i64 ((lengthM p.n).1 : Nat), .agg tc] w (MatchP w A l.length c (a + (restBits D p).length) Ao base (copyN out p.back p.n) most) := by
  have HTT := Lib.hid HT
  have HAA := Lib.hid HA
  have HWF := Lib.hid hwf
  have HB := Lib.hid hb
  have HOW := Lib.hid hown
  have HD0 := Lib.hid hD
  have HU := Lib.hid hu
  have HBI := Lib.hid hbits
  have hbig := HA.bigb
  have HI : Hid ((Tryz.prog.info? 66).map (·.size) = some tc.size) := by show _ = _; rw [HT.size]; exact info57
  have HLB := Lib.hid (lengthM_bd g1 g2)
  have HDB := Lib.hid (distM_bd g3 g4)
  have HDS := Lib.hid (dist_base g3)
  have HLS := Lib.hid (fun h => length_base g1 (n := p.n) h)
  have HL8 : Hid (p.n = 258 → lengthM p.n = (285, 0, 0)) := fun h => by unfold lengthM; rw [if_pos h]
  have hrb : restBits D p = putV false ((lengthM p.n).2.1 : Nat) (lengthM p.n).2.2 ++ codeBits D (distM p.back).1 ++ putV false ((distM p.back).2.1 : Nat) (distM p.back).2.2 := rfl
  have hlb1 := hbits.le
  rw [hrb] at hlb1 ⊢
  rw [hrb] at HBI
  simp only [List.length_append, putV_length] at hlb1 ⊢
  clear HT HA hwf hb hown hD hu hbits hrb
  obtain ⟨pb, pn, pback⟩ := p
  simp only at *
  generalize hlm : lengthM pn = lm at *
  generalize hdm : distM pback = dm at *
  obtain ⟨s1, v1, m1⟩ := lm
  obtain ⟨s2, v2, m2⟩ := dm
  simp only at *
  clear hlm hdm
  have hs1 : s1 ≤ 285 ∧ 257 ≤ s1 := by have := HLB.out; omega
  have hd0 : decide ((285 : Int) < (s1 : Int)) = false := decide_eq_false (by omega)
  have hsub : (s1 : Int) - 257 = ((s1 - 257 : Nat) : Int) := by omega
  unfold stV
  go_enter Tryz.func61, Tryz.ntmps61
  go_wp2_with fail
  have HM := Lib.hid (MS.start w tc (fun _ => False) A l.length c (a : Int) Ao out.length co most)
  generalize (World.alloc (World.alloc (World.alloc w _) _) _) = W at HM ⊢
  refine (base_4 (k := s1 - 257) W (by omega)).mono ?_
  rintro e w1 ⟨rfl, rfl⟩
  go_upto_if 25 with (fail)
  go_cut [7, 8] (fun sa sb wx => sa = .int .i64 ((pn - v1 : Nat) : Int) ∧ sb = .int .i64 (m1 : Int) ∧ W = wx)
  case first =>
    by_cases h8 : pn = 258
    · have he := HL8.out h8
      simp only [Prod.mk.injEq] at he
      obtain ⟨rfl, rfl, rfl⟩ := he
      have hv : Hid (pn - 0 = 258) := by show _ = _; omega
      go_wp2
      go_meet
      case rel => exact ⟨by rw [hv.out]; rfl, rfl, rfl⟩
    · obtain ⟨k1, k2, k3, k4⟩ := HLS.out (by omega)
      have hne : ((s1 : Int) == 285) = false := by simp; omega
      have hv : Hid (pn - v1 = 3 + baseS 4 (s1 - 257)) := by show _ = _; omega
      have HK4 := Lib.hid k4
      clear k3 k4
      go_wp2
      go_meet
      case rel => exact ⟨eint (by rw [hv.out]; push_cast; rfl), by rw [HK4.out], rfl⟩
  case rest =>
    obtain ⟨rfl, rfl, rfl⟩ := hcut
    have HBE : Hid (∀ W, Chg w W (fun _ => False) → Below w0.heap.size w0 W) := fun W h => HB.out.trans (h.below HB.out.size (fun i hi => hi.elim))
    obtain ⟨⟨a0, a1, a2, a3, a4, a5⟩, f0, f1, f2, f3, f4, f5⟩ := cells6 HM.out.st
    have htk : takeV l false a m1 = (v1 : Int) := take_at HBI.out.left.left (by omega) (by have := HLB.out.2.2.2; exact_mod_cast this)
    have HTK := Lib.hid htk
    have hvn : ((pn - v1 : Nat) : Int) + (v1 : Int) = (pn : Int) := by
      have : v1 ≤ pn := by
        by_cases h8 : pn = 258
        · have he := HL8.out h8; simp only [Prod.mk.injEq] at he; omega
        · have := HLS.out (by omega); omega
      omega
    clear htk
    go_wp2_with fail
    refine (itake_any (k := m1) W (HAA.out.below (HBE.out _ HM.out.chg) (Nat.le_refl _)) HWF.out (by have := HLB.out; omega) (by omega)).mono ?_
    rintro e w3 ⟨he, hb3⟩
    rw [HTK.out] at he
    subst he
    have HM3 := Lib.hid (HM.out.below hb3)
    clear hb3 a0 a1 a2 a3 a4 a5 f0 f1 f2 f3 f4 f5 HM
    obtain ⟨⟨a0, a1, a2, a3, a4, a5⟩, f0, f1, f2, f3, f4, f5⟩ := cells6 HM3.out.st
    unfold stV
    go_upto_region 12 with (fail)
    obtain ⟨W4, hW4, hm4⟩ := HM3.out.store ((a : Int) + (m1 : Int)) Ao out.length co
    rw [← hW4]
    have HM4 := Lib.hid hm4
    have HTB4 := Lib.hid hm4.tb
    clear hW4 hm4 a0 a1 a2 a3 a4 a5 f0 f1 f2 f3 f4 f5 HM3
    obtain ⟨⟨a0, a1, a2, a3, a4, a5⟩, f0, f1, f2, f3, f4, f5⟩ := cells6 HM4.out.st
    have hbr := HBI.out.left.right
    rw [length_put] at hbr
    have hdec := decode_at HD0.out HU.out hbr
    generalize hcl : (codeBits D s2).length = cl at hlb1 hdec ⊢
    have HCL := Lib.hid hcl
    clear hcl
    have hcall := inext_any (a := a + m1) (Ao := Ao) (no := out.length) (co := co) (c := c) (most := most) W4 (HTT.out.below (HBE.out _ HM4.out.chg) (Nat.le_refl _)) (HAA.out.below (HBE.out _ HM4.out.chg) (Nat.le_refl _)) HWF.out (by omega) hdec
    rw [show ((a + m1 : Nat) : Int) = (a : Int) + (m1 : Int) from by push_cast; rfl] at hcall
    have HCALL := Lib.hid hcall
    clear hbr hdec hcall
    go_wp2_with (refine wpList_load_row rfl 66 (.tmp 5) rfl (w.heap.size + 1) rfl 66 tc (0, 0) _ HTB4.out Tryz.underlying66 rfl HI.out ?_)
    refine HCALL.out.mono ?_
    rintro e w5 ⟨rfl, hb5⟩
    have HM5 := Lib.hid (HM4.out.below hb5)
    clear hb5 a0 a1 a2 a3 a4 a5 f0 f1 f2 f3 f4 f5 HM4 HTB4 HCALL
    obtain ⟨⟨a0, a1, a2, a3, a4, a5⟩, f0, f1, f2, f3, f4, f5⟩ := cells6 HM5.out.st
    unfold stV
    have hd29 : decide ((29 : Int) < (s2 : Int)) = false := decide_eq_false (by have := HDB.out; omega)
    go_upto_region 18 with (fail)
    obtain ⟨W6, hW6, hm6⟩ := HM5.out.store ((a : Int) + (m1 : Int) + (cl : Int)) Ao out.length co
    rw [← hW6]
    have HM6 := Lib.hid hm6
    clear hW6 hm6 a0 a1 a2 a3 a4 a5 f0 f1 f2 f3 f4 f5 HM5
    obtain ⟨⟨a0, a1, a2, a3, a4, a5⟩, f0, f1, f2, f3, f4, f5⟩ := cells6 HM6.out.st
    have hd2 := HDS.out
    go_wp2_with fail
    refine (base_2 (k := s2) W6 (by have := HDB.out; omega)).mono ?_
    rintro e w7 ⟨he, rfl⟩
    rw [hd2.2, show 1 + baseS 2 s2 = pback - v2 by omega] at he
    subst he
    have hv2 : v2 ≤ pback := by omega
    clear hd2
    have htk := take_at (l := l) (a := a + m1 + cl) (n := m2) (v := (v2 : Int)) (by
      have := HBI.out.right
      rw [List.length_append, length_put] at this
      rw [HCL.out] at this
      rw [Nat.add_assoc]; exact this) (by omega) (by have := HDB.out.2.2; exact_mod_cast this)
    have HTK2 := Lib.hid htk
    have hfar : ((pback - v2 : Nat) : Int) + (v2 : Int) = (pback : Int) := by omega
    clear htk
    have hcall := itake_any (k := m2) (a := a + m1 + cl) (Ao := Ao) (no := out.length) (co := co) (c := c) (most := most) W6 (HAA.out.below (HBE.out _ HM6.out.chg) (Nat.le_refl _)) HWF.out (by have := HDB.out; omega) (by omega)
    rw [show ((a + m1 + cl : Nat) : Int) = (a : Int) + (m1 : Int) + (cl : Int) from by push_cast; rfl] at hcall
    have HCALL := Lib.hid hcall
    clear hcall
    go_wp2_with fail
    refine HCALL.out.mono ?_
    rintro e w8 ⟨he, hb8⟩
    rw [HTK2.out, show ((a + m1 + cl : Nat) : Int) = (a : Int) + (m1 : Int) + (cl : Int) from by push_cast; rfl] at he
    subst he
    have HM8 := Lib.hid (HM6.out.below hb8)
    clear hb8 a0 a1 a2 a3 a4 a5 f0 f1 f2 f3 f4 f5 HM6 HTK2 HCALL
    obtain ⟨⟨a0, a1, a2, a3, a4, a5⟩, f0, f1, f2, f3, f4, f5⟩ := cells6 HM8.out.st
    unfold stV
    have hdf : decide ((out.length : Int) < (pback : Int)) = false := decide_eq_false (by omega)
    have hdm : decide (most - (out.length : Int) < (pn : Int)) = false := decide_eq_false (by omega)
    go_upto_region 29 with (fail)
    obtain ⟨W9, hW9, hm9⟩ := HM8.out.store ((a : Int) + (m1 : Int) + (cl : Int) + (m2 : Int)) Ao out.length co
    rw [← hW9]
    have HS0 : Hid (OutP w Ao base (copyN out pback 0) Ao co W9) := ⟨own_frame HOW.out (fun g hg => hm9.chg.block g (HOW.out.lt g hg).2 (fun h => h)), hm9.chg.mono (fun _ _ h => h.elim), .inl rfl⟩
    have HM9 : Hid (MS w W9 tc (fun x => Wrt.own Ao = some x) A l.length c ((a : Int) + (m1 : Int) + (cl : Int) + (m2 : Int)) Ao out.length co most) := hm9.mono (fun _ h => h.elim)
    clear hW9 hm9 a0 a1 a2 a3 a4 a5 f0 f1 f2 f3 f4 f5 HM8
    go_wp2_with fail
    go_loopw [13] (fun si wx => ∃ (j : Nat) (A1 : Option Addr) (c1 : Nat), j ≤ pn ∧ si = .int .i64 j ∧ MS w wx tc (fun x => Wrt.own Ao = some x) A l.length c ((a : Int) + (m1 : Int) + (cl : Int) + (m2 : Int)) A1 (out.length + j) c1 most ∧ OutP w Ao base (copyN out pback j) A1 c1 wx) (fun si _ => pn - (intOf si).toNat)
    case atStart => exact ⟨0, Ao, co, by omega, rfl, HM9.out, HS0.out⟩
    case round =>
      clear HM9 HS0
      rename ¬ out.length < pback => hxx
      clear hxx
      obtain ⟨j, A1, c1, hj, rfl, hM, hO⟩ := hrel
      have HM := Lib.hid hM
      have HO := Lib.hid hO
      have hlen := copyN_len out pback j
      have hown := hO.own
      rw [hlen] at hown
      obtain ⟨⟨a0, a1, a2, a3, a4, a5⟩, f0, f1, f2, f3, f4, f5⟩ := cells6 hM.st
      clear hM hO
      by_cases hjn : j < pn
      · have hdj : decide ((j : Int) < (pn : Int)) = true := decide_eq_true (by omega)
        obtain ⟨g, rfl⟩ : ∃ g, A1 = some ⟨g, 0, none⟩ := by
          rcases hown.2 with ⟨hv, h1⟩ | ⟨g, cap, cur, hv, -⟩
          · omega
          · injection hv with hv; exact ⟨g, hv⟩
        obtain ⟨n0, n1, n2⟩ := HM.out.ne hown
        obtain ⟨x, hx⟩ : ∃ x, (copyN out pback j)[out.length + j - pback]? = some x := ⟨_, List.getElem?_eq_getElem (by omega)⟩
        have kx : wr.cell? ⟨g, out.length + j - pback, none⟩ = some (.int .u8 x) := by
          rw [hown.cellAt (g := g) _ (by omega), List.getElem?_map, hx]; rfl
        have HOWN := Lib.hid hown
        have hgl := hown.lt g rfl
        have hst : copyN out pback (j + 1) = copyN out pback j ++ [x] := by rw [copyN, hlen, getD_of hx]
        have HST := Lib.hid hst
        have e1 : IntKind.i64.wrap ((out.length : Int) + (j : Int) - (pback : Int)) = (out.length : Int) + (j : Int) - (pback : Int) := IntWalk.i64_in _ (by omega)
        have e2 : ((out.length : Int) + (j : Int) - (pback : Int)).toNat = out.length + j - pback := by omega
        have i0 : (0 : Int) ≤ (out.length : Int) + (j : Int) - (pback : Int) := by omega
        have i1 : (out.length : Int) + (j : Int) - (pback : Int) < (out.length : Int) + (j : Int) := by omega
        have i2 : (pback : Int) ≤ (out.length : Int) + (j : Int) := by omega
        have hz := HM.out.lt
        have hz0 : w.heap.size < wr.heap.size := by omega
        clear hown hx hst
        go_upto_block 1 with (fail)
        go_cut [] (fun wx => ∃ (A2 : Option Addr) (c2 : Nat), MS w wx tc (fun x => Wrt.own Ao = some x) A l.length c ((a : Int) + (m1 : Int) + (cl : Int) + (m2 : Int)) A2 (out.length + j + 1) c2 most ∧ OutP w Ao base (copyN out pback (j + 1)) A2 c2 wx)
        case first =>
          go_wp2_with fail
          go_region_law (
            refine Bld.step_push (by rfl) (.tmp 94) (.tmp 104) _ (by rfl) base 5 1 1 _ Tryz.underlying22 infoU8 rfl (by omega) (.slice (some ⟨g, 0, none⟩) (out.length + j) c1) (out.length + j) _ (by rfl) (HOWN.out.alloc _).drew wr.heap.size 1 [.int .u8 x] 5 (by rfl) (by rfl) (heap_alloc_new wr _) (by simp [Value.oneCell']) (by unfold maxLen; omega) (by omega) (by simp; omega) (wr.heap.size + 1) (by simp) ?_
            intro gg cap w5 hown5 hg5 hat5 hlt5
            have hM5 := Lib.hid (MS.grown (HM.out.below ((Below.refl _ _).alloc (Nat.le_refl _) _)).drew hg5
              (fun b e hlt => by
                cases e
                rcases HO.out.loc with h | h
                · exact h.symm.trans rfl
                · exact absurd (h _ rfl) (by omega))
              (fun b e => by cases e; exact ⟨n0, n1, n2⟩))
            obtain ⟨⟨b0, b1, b2, b3, b4, b5⟩, h0, h1, h2, h3, h4, h5⟩ := cells6 hM5.out.st)
          all_goals (
            have HC := Lib.hid (copy_step (m := out.length + j) HO.out hbw hM5.out hlen hown5 hg5 hat5 HST.out)
            clear hown5 hg5 hat5 hM5 HM HO HOWN HST
            go_wp2_with fail
            go_meet
            case rel => exact HC.out)
        case rest =>
          obtain ⟨A2, c2, hmo, hoo⟩ := hcut
          rw [Nat.add_assoc] at hmo
          have HMO := Lib.hid hmo
          have HOO := Lib.hid hoo
          clear hmo hoo HM HO HOWN a0 a1 a2 a3 a4 a5 f0 f1 f2 f3 f4 f5 kx
          go_wp2_with fail
          go_roundw
          case rel => exact ⟨j + 1, A2, c2, by omega, eint (by omega), HMO.out, HOO.out⟩
          case measure => simp [intOf]; omega
      · obtain rfl : j = pn := by omega
        have hdj : decide ((j : Int) < (j : Int)) = false := decide_eq_false (by omega)
        clear HTT HAA HBE HD0 HBI HLB HDB HDS HLS HL8 HTK
        obtain ⟨⟨b0, b1, b2, b3, b4, b5⟩, h0, h1, h2, h3, h4, h5⟩ := cells6 HM.out.rs
        go_wp2_with fail
        obtain ⟨W3, hW3, hs3, hg3⟩ := HM.out.rs.all (.slice A l.length c) (.bool false) (.int .i64 ((a : Int) + (m1 : Int) + (cl : Int) + (m2 : Int))) (.slice A1 (out.length + j) c1) (.int .i64 most) (.int .i64 0)
        rw [← hW3]
        obtain ⟨⟨e0, e1, e2, e3, e4, e5⟩, -⟩ := cells6 hs3
        have hl3 := hs3.lt
        have hn := HM.out.lt
        refine bodyPost_ret (v := .agg (stV A l.length c ((a : Int) + (m1 : Int) + (cl : Int) + (m2 : Int)) A1 (out.length + j) c1 most 0)) ?_ rfl ⟨A1, c1, ?_, ?_⟩
        · simp [results, Tryz.results61, go_sem, e0, e1, e2, e3, e4, e5, hl3, stV]
        · rw [HCL.out, hlen]; simp only [stV, Int.natCast_add, Int.add_assoc]
        · have hne : ∀ g, (Value.slice A1 (out.length + j) c1).ownBlock = some g → g ≠ w.heap.size + 2 := fun g hg => by
            cases A1 with
            | none => cases hg
            | some a1 =>
              obtain ⟨b, o, s⟩ := a1
              rcases hown.2 with ⟨hv, -⟩ | ⟨g', cap', cur, hv, -⟩
              · cases hv
              · injection hv with hv
                injection hv with hv
                rw [hv] at hown hg
                cases hg
                exact (HM.out.ne hown).2.2
          have hl := hown.lt
          refine ⟨?_, ?_, HO.out.loc⟩
          · rw [hlen]
            exact own_frame hown (fun g hg => hg3.block g (hl g hg).2 (fun e => by injection e with e; exact hne g hg e))
          · exact Chg.grow2 HO.out.chg hg3 (fun b e hlt => by injection e with e; omega)
end Go.Proofs.YtmgbjgjlddifaaaGreat.Inf
