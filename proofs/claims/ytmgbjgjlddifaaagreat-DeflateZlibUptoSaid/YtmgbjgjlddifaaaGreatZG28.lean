/-
  Texts of this claim, joined by program (InfT, InfU, InfV, InfW, InfX). Walks: the reference's inflate: Raw on a stored stream.
-/
import Derived.Test.YtmgbjgjlddifaaaGreatZG27
import Derived.Test.YtmgbjgjlddifaaaGreatZG24
import Derived.Test.YtmgbjgjlddifaaaGreatZG25
import Derived.Test.YtmgbjgjlddifaaaGreatZG13
set_option linter.unusedVariables false
set_option linter.unusedSimpArgs false
namespace Go.Proofs.YtmgbjgjlddifaaaGreat.Inf
open Go.RowKit K Bits Pfx Def Wrt Bak Ref RefR RefT RefX

/-- Raw's memory -/
structure RS (w W : World) (A : Option Addr) (n c : Nat) (a : Int) (Ao : Option Addr) (no co : Nat) (most : Int) : Prop where
  bel : Below w.heap.size w W
  st : Six W w.heap.size 58 (.slice A n c) (.bool false) (.int .i64 a) (.slice Ao no co) (.int .i64 most) (.int .i64 0)
section
variable {w W W2 : World} {A Ao : Option Addr} {n c no co : Nat} {a most : Int}
theorem RS.lt (h : RS w W A n c a Ao no co most) : w.heap.size < W.heap.size := h.st.lt
theorem RS.below (h : RS w W A n c a Ao no co most) (hb : Below W.heap.size W W2) : RS w W2 A n c a Ao no co most := by
  have hl := h.lt
  exact ⟨h.bel.trans (hb.mono h.bel.size), h.st.block (hb.block _ (by omega))⟩
theorem RS.store (h : RS w W A n c a Ao no co most) (a2 : Int) (A2 : Option Addr) (no2 co2 : Nat) :
    ∃ W2, W2 = ((((((W.setCell ⟨w.heap.size, 0, none⟩ (.slice A n c)).setCell ⟨w.heap.size, 1, none⟩ (.bool false)).setCell ⟨w.heap.size, 2, none⟩ (.int .i64 a2)).setCell ⟨w.heap.size, 3, none⟩ (.slice A2 no2 co2)).setCell ⟨w.heap.size, 4, none⟩ (.int .i64 most)).setCell ⟨w.heap.size, 5, none⟩ (.int .i64 0)) ∧ RS w W2 A n c a2 A2 no2 co2 most ∧ W.grownBy W2 (some w.heap.size) := by
  obtain ⟨W2, e, h1, h2⟩ := h.st.all (.slice A n c) (.bool false) (.int .i64 a2) (.slice A2 no2 co2) (.int .i64 most) (.int .i64 0)
  have hl := h.lt
  exact ⟨W2, e, ⟨h.bel.grown h2 h.bel.size (fun b e => by injection e with e; omega), h1⟩, h2⟩
theorem RS.start (w : World) (A : Option Addr) (n c : Nat) (a : Int) (Ao : Option Addr) (no co : Nat) (most : Int) :
    RS w (w.alloc (.cells #[.slice A n c, .bool false, .int .i64 a, .slice Ao no co, .int .i64 most, .int .i64 0] 58)) A n c a Ao no co most :=
  ⟨(Below.refl _ _).alloc (Nat.le_refl _) _, heap_alloc_new _ _⟩
theorem RS.outp {base : Nat} {o2 : List Int} {A2 : Option Addr} {c2 : Nat} {xs : List Value} (h : RS w W A n c a Ao no co most) (hbase : w.heap.size + 1 ≤ base) (hown : W.ownsRow base 5 1 (.slice Ao no co) no xs) (ho : OutP W Ao base o2 A2 c2 W2) : RS w W2 A n c a Ao no co most := by
  have hl := h.lt
  have hn : ∀ i, Wrt.own Ao = some i → w.heap.size + 1 ≤ i := fun i e => by
    have := (hown.lt i (by rw [ownBlock_eq]; exact e)).1; omega
  exact ⟨h.bel.trans (ho.chg.below h.bel.size (fun i e => by have := hn i e; omega)), h.st.block (ho.chg.block _ (by omega) (fun e => by have := hn _ e; omega))⟩
end
set_option maxRecDepth 20000 in
set_option maxHeartbeats 8000000 in
theorem rraw_stored_on {b x : List Int} {m : Nat} {A : Option Addr} {c : Nat} {most : Int} (w : World) (HX : SI w .u8 A x.length x) (hwf : ∀ y ∈ x, 0 ≤ y ∧ y < 256) (hc : x.length ≤ c) (hc2 : c ≤ 9223372036854775807) (hrest : RestAt x m 0 b) (hm : (b.length : Int) ≤ most) (hmb : most ≤ 2000000) :
    Calls Tryz.prog 11 #[.slice A x.length c, .int .i64 most] w (RRawN w b m) := by
  have HXX := Lib.hid HX
  have HWF := Lib.hid hwf
  have HREST := Lib.hid hrest
  have hmx := hrest.le
  have hbig := HX.bigb
  have hd0 : decide (most < 0) = false := decide_eq_false (by omega)
  clear HX hwf hrest
  go_enter Tryz.func11, Tryz.ntmps11
  go_upto_region 4 with (fail)
  have HK := Lib.hid (RS.start w A x.length c 0 none 0 0 most)
  generalize (World.alloc w _) = W at HK ⊢
  go_wp2_with fail
  go_loopw [8] (fun s7 wx => ∃ (f p : Nat) (o r : List Int) (A1 : Option Addr) (c1 : Nat), s7 = .int .i64 f ∧ RS w wx A x.length c (8 * (p : Int)) A1 o.length c1 most ∧ wx.ownsRow (w.heap.size + 1) 5 1 (.slice A1 o.length c1) o.length (o.map (.int .u8)) ∧ o ++ r = b ∧ ((f = 0 ∧ RestAt x m p r) ∨ (f = 1 ∧ r = [] ∧ p = m)))
    (fun s7 wx => (1 - (intOf s7).toNat) * (8 * x.length + 8 - (intOf ((wx.cell? ⟨w.heap.size, 2, none⟩).getD (.int .i64 0))).toNat))
  case atStart => exact ⟨0, 0, [], b, none, 0, rfl, by simpa using HK.out, World.ownsRow_nil _ _ _ _, rfl, .inl ⟨rfl, HREST.out⟩⟩
  case round =>
    clear HK HREST
    obtain ⟨f, p, o, r, A1, c1, rfl, hk, hown, hob, hcase⟩ := hrel
    have HK := Lib.hid hk
    have HO := Lib.hid hown
    have HOB := Lib.hid hob
    obtain ⟨⟨a0, a1, a2, a3, a4, a5⟩, f0, f1, f2, f3, f4, f5⟩ := cells6 hk.st
    clear hk hown hob
    rcases hcase with ⟨rfl, hrest⟩ | ⟨rfl, rfl, hpm⟩
    · obtain ⟨l, d, r', hch, hdr, hl⟩ := hrest.step
      have HCH := Lib.hid hch
      have HDR := Lib.hid hdr
      have HL := Lib.hid hl
      have hle := hch.le
      have hsh := hch.short
      have hol : o.length + d.length ≤ b.length := by rw [← HOB.out, ← hdr, List.length_append, List.length_append]; omega
      clear hrest hch hdr hl
      have HA2 := Lib.hid a2
      have HCALL := Lib.hid (take_form (a := 8 * p) (k := 1) (c := c) (Ao := A1) (no := o.length) (co := c1) (most := most) (a0 := 8 * (p : Int)) (kk := 1) (a1 := 8 * (p : Int) + 1) (v := (l : Int)) wr (HXX.out.below HK.out.bel (Nat.le_refl _)) HWF.out (by omega) (by omega) (by omega) (by omega) rfl HCH.out.one)
      go_wp2_with fail
      refine HCALL.out.mono ?_
      rintro e w1 ⟨rfl, hb1⟩
      have HK1 := Lib.hid (HK.out.below hb1)
      have HO1 := Lib.hid (own_frame HO.out (fun g hg => hb1.block g (HO.out.lt g hg).2))
      clear hb1 HK HO HCALL a0 a1 a2 a3 a4 a5 f0 f1 f2 f3 f4 f5
      obtain ⟨⟨a0, a1, a2, a3, a4, a5⟩, f0, f1, f2, f3, f4, f5⟩ := cells6 HK1.out.st
      go_upto_region 8 with (fail)
      obtain ⟨W2, hW2, hk2, hg2⟩ := HK1.out.store (8 * (p : Int) + 1) A1 o.length c1
      rw [← hW2]
      have HK2 := Lib.hid hk2
      have HO2 := Lib.hid (own_frame HO1.out (fun g hg => hg2.block g (HO1.out.lt g hg).2 (fun e => by injection e with e; have := (HO1.out.lt g hg).1; omega)))
      clear hW2 hk2 hg2 HK1 HO1 a0 a1 a2 a3 a4 a5 f0 f1 f2 f3 f4 f5
      obtain ⟨⟨a0, a1, a2, a3, a4, a5⟩, f0, f1, f2, f3, f4, f5⟩ := cells6 HK2.out.st
      have HCALL := Lib.hid (take_form (a := 8 * p + 1) (k := 2) (c := c) (Ao := A1) (no := o.length) (co := c1) (most := most) (a0 := 8 * (p : Int) + 1) (kk := 2) (a1 := 8 * (p : Int) + 3) (v := 0) W2 (HXX.out.below HK2.out.bel (Nat.le_refl _)) HWF.out (by omega) (by omega) (by omega) (by omega) (by omega) HCH.out.kind)
      go_wp2_with fail
      refine HCALL.out.mono ?_
      rintro e w3 ⟨rfl, hb3⟩
      have HK3 := Lib.hid (HK2.out.below hb3)
      have HO3 := Lib.hid (own_frame HO2.out (fun g hg => hb3.block g (HO2.out.lt g hg).2))
      clear hb3 HK2 HO2 HCALL a0 a1 a2 a3 a4 a5 f0 f1 f2 f3 f4 f5
      obtain ⟨⟨a0, a1, a2, a3, a4, a5⟩, f0, f1, f2, f3, f4, f5⟩ := cells6 HK3.out.st
      go_upto_region 10 with (fail)
      obtain ⟨W4, hW4, hk4, hg4⟩ := HK3.out.store (8 * (p : Int) + 3) A1 o.length c1
      rw [← hW4]
      have HK4 := Lib.hid hk4
      have HO4 := Lib.hid (own_frame HO3.out (fun g hg => hg4.block g (HO3.out.lt g hg).2 (fun e => by injection e with e; have := (HO3.out.lt g hg).1; omega)))
      clear hW4 hk4 hg4 HK3 HO3 a0 a1 a2 a3 a4 a5 f0 f1 f2 f3 f4 f5
      obtain ⟨⟨a0, a1, a2, a3, a4, a5⟩, f0, f1, f2, f3, f4, f5⟩ := cells6 HK4.out.st
      have hcall := rstored_any (c := c) (most := most) W4 (HXX.out.below HK4.out.bel (Nat.le_refl _)) HWF.out hc hc2 HCH.out HO4.out (by have := HK4.out.lt; omega) (by omega) hmb
      unfold stV at hcall
      have HCALL := Lib.hid hcall
      clear hcall
      go_wp2_with fail
      refine HCALL.out.mono ?_
      rintro e w7 ⟨A7, c7, rfl, ho7⟩
      have HK7 := Lib.hid (HK4.out.outp (Nat.le_refl _) HO4.out ho7)
      have HO7 := Lib.hid ho7.own
      clear ho7 HK4 HO4 HCALL a0 a1 a2 a3 a4 a5 f0 f1 f2 f3 f4 f5
      obtain ⟨⟨a0, a1, a2, a3, a4, a5⟩, f0, f1, f2, f3, f4, f5⟩ := cells6 HK7.out.st
      unfold stV
      go_wp2_with fail
      obtain ⟨W8, hW8, hk8, hg8⟩ := HK7.out.store (8 * ((p : Int) + 5 + (d.length : Int))) A7 (o.length + d.length) c7
      rw [← hW8]
      have ho8 := own_frame HO7.out (fun g hg => hg8.block g (HO7.out.lt g hg).2 (fun e => by injection e with e; have := (HO7.out.lt g hg).1; omega))
      obtain ⟨⟨-, -, z2, -⟩, -⟩ := cells6 hk8.st
      have hob2 : (o ++ d) ++ r' = b := by rw [List.append_assoc, HDR.out, HOB.out]
      refine ⟨⟨l, p + 5 + d.length, o ++ d, r', A7, c7, rfl, by rw [show ((p + 5 + d.length : Nat) : Int) = (p : Int) + 5 + (d.length : Int) from by push_cast; rfl, List.length_append]; exact hk8, ho8, hob2, ?_⟩, ?_⟩
      · rcases HL.out with ⟨h1, h2, h3⟩ | ⟨h1, h2⟩
        · exact .inr ⟨h1, h2, h3.symm⟩
        · exact .inl ⟨h1, h2⟩
      · rw [z2, HA2.out]
        rcases HL.out with ⟨h1, -⟩ | ⟨h1, h2⟩
        · subst h1; simp [intOf]; omega
        · subst h1; simp [intOf]; omega
    · have hpl : p ≤ x.length := by omega
      have HPM := Lib.hid hpm
      clear hpm
      have e1 : IntKind.i64.wrap (8 * (p : Int) + 7) = 8 * (p : Int) + 7 := IntWalk.i64_in _ (by omega)
      have e2 : (8 * (p : Int) + 7).tdiv 8 = (p : Int) := by rw [Int.tdiv_eq_ediv_of_nonneg (by omega)]; omega
      have e3 : wrap64 (p : Int) = (p : Int) := IntWalk.wrap64_in _ (by omega)
      have hob := HOB.out
      rw [List.append_nil] at hob
      subst hob
      have HS : Hid (SI wr .u8 A1 o.length o) := SI.of_own HO.out (by show _ * 1 ≤ _; omega)
      go_wp2_with fail
      go_region
      go_wp2_with fail
      refine bodyPost_ret (v := .tuple #[.slice A1 o.length c1, .int .i64 (p : Int), .int .i64 0]) ?_ rfl ⟨A1, c1, by rw [HPM.out], HS.out.below ((Below.refl wr.heap.size wr).drew) (Nat.le_refl _), HK.out.bel.drew⟩
      simp [results, Tryz.results11, go_sem, e3]
theorem rraw_stored {b x : List Int} {A : Option Addr} {c : Nat} {most : Int} (w : World) (HX : SI w .u8 A x.length x) (hwf : ∀ y ∈ x, 0 ≤ y ∧ y < 256) (hc : x.length ≤ c) (hc2 : c ≤ 9223372036854775807) (hx : x = storedB b) (hm : (b.length : Int) ≤ most) (hmb : most ≤ 2000000) :
    Calls Tryz.prog 11 #[.slice A x.length c, .int .i64 most] w (RRawP w b x) := rraw_stored_on w HX hwf hc hc2 (by rw [hx]; exact rest_start b) hm hmb
end Go.Proofs.YtmgbjgjlddifaaaGreat.Inf
set_option linter.unusedVariables false
set_option linter.unusedSimpArgs false
namespace Go.Proofs.YtmgbjgjlddifaaaGreat.Inf
open Go.RowKit K Bits Pfx Def Wrt Bak Ref RefR RefT RefX

def posN (l : List Int) : Nat := l.countP (fun x => decide (0 < x))
def oneN (l : List Int) : Nat := l.countP (fun x => x == 1)
def mayM (l : List Int) (no : Bool) : Bool := ((roomRes l).1 == 0) || (((posN l : Nat) : Int) == 1 && ((oneN l : Nat) : Int) == 1) || (no && ((posN l : Nat) : Int) == 0)
theorem posN_snoc (l : List Int) (x : Int) : posN (l ++ [x]) = posN l + if 0 < x then 1 else 0 := by
  unfold posN
  rw [List.countP_append, List.countP_singleton]
  by_cases h : 0 < x <;> simp [h]
theorem oneN_snoc (l : List Int) (x : Int) : oneN (l ++ [x]) = oneN l + if x = 1 then 1 else 0 := by
  unfold oneN
  rw [List.countP_append, List.countP_singleton]
  by_cases h : x = 1 <;> simp [h]
theorem posN_le (l : List Int) : posN l ≤ l.length := List.countP_le_length
theorem oneN_le (l : List Int) : oneN l ≤ l.length := List.countP_le_length
/-- a list of lengths with one that is above nought -/
theorem pos_one {L : List Int} {i0 : Nat} (hi : i0 < L.length) (h1 : L.getD i0 0 = 1) (h0 : ∀ i, i < L.length → i ≠ i0 → L.getD i 0 = 0) : posN L = 1 ∧ oneN L = 1 := by
  have e : L = L.take i0 ++ ([1] ++ L.drop (i0 + 1)) := by
    have hg : L[i0] = 1 := by rw [List.getD_eq_getElem?_getD, List.getElem?_eq_getElem hi] at h1; exact h1
    have := List.take_append_drop i0 L
    rw [List.drop_eq_getElem_cons hi, hg] at this
    exact this.symm
  have hz : ∀ x, x ∈ L.take i0 ∨ x ∈ L.drop (i0 + 1) → x = 0 := fun x hx => by
    rcases hx with hx | hx
    · obtain ⟨j, hj, rfl⟩ := List.getElem_of_mem hx
      rw [List.length_take] at hj
      have := h0 j (by omega) (by omega)
      rw [List.getD_eq_getElem?_getD, List.getElem?_eq_getElem (by omega)] at this
      rw [List.getElem_take]; exact this
    · obtain ⟨j, hj, rfl⟩ := List.getElem_of_mem hx
      rw [List.length_drop] at hj
      have := h0 (i0 + 1 + j) (by omega) (by omega)
      rw [List.getD_eq_getElem?_getD, List.getElem?_eq_getElem (by omega)] at this
      rw [List.getElem_drop]; exact this
  have c0 : ∀ (l : List Int), (∀ x ∈ l, x = 0) → posN l = 0 ∧ oneN l = 0 := fun l hl => by
    unfold posN oneN
    exact ⟨List.countP_eq_zero.2 (fun x hx => by rw [hl x hx]; decide), List.countP_eq_zero.2 (fun x hx => by rw [hl x hx]; decide)⟩
  have a := c0 (L.take i0) (fun x hx => hz x (.inl hx))
  have b := c0 (L.drop (i0 + 1)) (fun x hx => hz x (.inr hx))
  rw [e]
  unfold posN oneN at *
  simp only [List.countP_append, a, b, List.countP_singleton]
  decide
theorem may_good {l L : List Int} {mo : Nat} (h : GoodC l mo L) (no : Bool) (hp : no = true ∨ ∃ i, i < L.length ∧ 0 < L.getD i 0) : mayM L no = true := by
  unfold mayM
  rcases h.may with h1 | ⟨i0, h1, h2, h3⟩ | h1
  · rw [h1]; rfl
  · obtain ⟨a, b⟩ := pos_one h1 h2 h3
    rw [a, b]; simp
  · rcases hp with rfl | ⟨i, hi, h2⟩
    · have : posN L = 0 := by
        unfold posN
        refine List.countP_eq_zero.2 (fun x hx => ?_)
        obtain ⟨j, hj, rfl⟩ := List.getElem_of_mem hx
        have := h1 j hj
        rw [List.getD_eq_getElem?_getD, List.getElem?_eq_getElem hj] at this
        have this : L[j] = 0 := this
        rw [this]; decide
      rw [this]; simp
    · have := h1 i hi; omega
def MayP (w : World) (l : List Int) (no : Bool) (e : Ending) (w' : World) : Prop := e = .returned (.bool (mayM l no)) ∧ w = w'
set_option maxRecDepth 20000 in
set_option maxHeartbeats 4000000 in
theorem rmay_any {A : Option Addr} {n c : Nat} {l : List Int} {no : Bool} (w : World) (HA : SI w .i64 A n l) : Calls Tryz.prog 62 #[.slice A n c, .bool no] w (MayP w l no) := by
  have HAA := Lib.hid HA
  have hbig := HA.big
  have hlen := Lib.hid HA.len
  clear HA
  go_enter Tryz.func62, Tryz.ntmps62
  go_wp2_with fail
  go_loop [5, 6, 7] (fun s5 s6 s7 => ∃ k : Nat, k ≤ n ∧ s7 = .int .i64 k ∧ s5 = .int .i64 (posN (l.take k)) ∧ s6 = .int .i64 (oneN (l.take k))) (fun _ _ s7 => n - (intOf s7).toNat)
  case atStart => exact ⟨0, by omega, rfl, by simp [posN], by simp [oneN]⟩
  case round =>
    obtain ⟨k, hk, rfl, rfl, rfl⟩ := hrel
    have hp1 := posN_le (l.take k)
    have hp2 := oneN_le (l.take k)
    rw [List.length_take, hlen.out] at hp1 hp2
    by_cases hlt : k < n
    · obtain ⟨b1, o1, x, rfl, hc1, hx, -⟩ := HAA.out.cells (i := k) hlt
      have hd : decide ((k : Int) < (n : Int)) = true := by simp; omega
      have h1 := posN_snoc (l.take k) x
      have h2 := oneN_snoc (l.take k) x
      rw [← take_snoc hx.out] at h1 h2
      have H1 := Lib.hid h1
      have H2 := Lib.hid h2
      clear h1 h2
      generalize posN (l.take k) = u at *
      generalize oneN (l.take k) = v at *
      by_cases hx1 : x = 1
      · have d1 : decide ((0 : Int) < x) = true := decide_eq_true (by omega)
        have d2 : (x == (1 : Int)) = true := by rw [hx1]; rfl
        have HX := Lib.hid hx1
        clear hx1
        go_wp2
        go_round
        case rel => exact ⟨k + 1, by omega, by go_num, by rw [H1.out, if_pos (by rw [HX.out]; omega)]; go_num, by rw [H2.out, if_pos HX.out]; go_num⟩
        case measure => simp [intOf]; omega
      · have d2 : (x == (1 : Int)) = false := by simp [hx1]
        have HX := Lib.hid hx1
        clear hx1
        by_cases hx0 : 0 < x
        · have d1 : decide ((0 : Int) < x) = true := decide_eq_true hx0
          go_wp2
          go_round
          case rel => exact ⟨k + 1, by omega, by go_num, by rw [H1.out, if_pos (by omega)]; go_num, by rw [H2.out, if_neg HX.out]; go_num⟩
          case measure => simp [intOf]; omega
        · have d1 : decide ((0 : Int) < x) = false := decide_eq_false hx0
          go_wp2
          go_round
          case rel => exact ⟨k + 1, by omega, by go_num, by rw [H1.out, if_neg (by omega)]; go_num, by rw [H2.out, if_neg HX.out]; go_num⟩
          case measure => simp [intOf]; omega
    · obtain rfl : k = n := by omega
      have hd : decide ((k : Int) < (k : Int)) = false := by simp
      have ht : l.take k = l := List.take_of_length_le (by rw [hlen.out]; omega)
      rw [ht]
      have HM : Hid (mayM l no = (((roomRes l).1 == 0) || (((posN l : Nat) : Int) == 1 && ((oneN l : Nat) : Int) == 1) || (no && ((posN l : Nat) : Int) == 0))) := rfl
      rw [ht] at hp1 hp2
      have hcall := rroom_any (A := A) (n := k) (c := c) w HAA.out
      have HCALL := Lib.hid hcall
      clear hcall ht
      generalize hb0 : ((roomRes l).1 == 0) = b0 at HM
      generalize hb1 : (((posN l : Nat) : Int) == 1) = b1 at HM
      generalize hb2 : (((oneN l : Nat) : Int) == 1) = b2 at HM
      generalize hb3 : (((posN l : Nat) : Int) == 0) = b3 at HM
      cases b0 <;> cases b1 <;> cases b2 <;> cases b3 <;> cases no <;> (
        go_wp2_with fail
        refine HCALL.out.mono ?_
        rintro e w' ⟨rfl, rfl⟩
        go_wp2_with fail
        go_ret
        exact ⟨by rw [HM.out]; rfl, rfl⟩)
end Go.Proofs.YtmgbjgjlddifaaaGreat.Inf
set_option linter.unusedVariables false
set_option linter.unusedSimpArgs false
namespace Go.Proofs.YtmgbjgjlddifaaaGreat.Inf
open Go.RowKit K Bits Pfx Def Wrt Bak Ref RefR RefT RefX

theorem rowBits_app (O a b : List Int) : rowBits O (a ++ b) = rowBits O a ++ rowBits O b := List.flatMap_append
theorem rowBits_snoc (O : List Int) {V : List Int} {k : Nat} {x : Int} (h : V[k]? = some x) : rowBits O (V.take (k + 1)) = rowBits O (V.take k) ++ codeBits O x.toNat := by
  rw [take_snoc h, rowBits_app]
  simp [rowBits]
theorem rowBits_at {x O V : List Int} {a k : Nat} {v : Int} (h : BitsAt x a (rowBits O V)) (hv : V[k]? = some v) : BitsAt x (a + (rowBits O (V.take k)).length) (codeBits O v.toNat) := by
  have e : V = V.take k ++ ([v] ++ V.drop (k + 1)) := by
    have hk : k < V.length := (List.getElem?_eq_some_iff.1 hv).1
    have := List.take_append_drop k V
    rw [List.drop_eq_getElem_cons hk] at this
    rw [List.getElem?_eq_getElem hk] at hv
    injection hv with hv
    rw [hv] at this
    exact this.symm
  rw [e, rowBits_app, rowBits_app] at h
  have h2 := h.right.left
  simpa [rowBits] using h2
def sliceLen : Value → Nat
  | .slice _ n _ => n
  | _ => 0
def RowP (w : World) (A : Option Addr) (n c a : Nat) (most : Int) (V : List Int) (e : Ending) (w' : World) : Prop :=
  ∃ A1 c1, e = .returned (.tuple #[.agg #[.slice A n c, .bool false, .int .i64 (a : Int), .slice none 0 0, .int .i64 most, .int .i64 0], .slice A1 V.length c1]) ∧ w'.ownsRow w.heap.size 3 1 (.slice A1 V.length c1) V.length (V.map (.int .i64)) ∧ Below w.heap.size w w'
set_option maxRecDepth 20000 in
set_option maxHeartbeats 8000000 in
theorem rrow_any {lo : Nat} {O l V : List Int} {tc : Array Value} {A : Option Addr} {c a n : Nat} {most : Int} (w : World) (HT : Tab lo w O tc) (HA : SI w .u8 A l.length l) (hwf : ∀ x ∈ l, 0 ≤ x ∧ x < 256) (hO : checkedOf O = 0)
    (hV : ∀ x ∈ V, 0 ≤ x ∧ x ≤ 15) (hu : ∀ x ∈ V, 0 < O.getD x.toNat 0) (hbits : BitsAt l a (rowBits O V)) (hn : V.length = n) (hn2 : n ≤ 1000) :
    Calls Tryz.prog 63 #[.agg #[.slice A l.length c, .bool false, .int .i64 (a : Int), .slice none 0 0, .int .i64 most, .int .i64 0], .agg tc, .int .i64 (n : Int)] w (RowP w A l.length c (a + (rowBits O V).length) most V) := by
  subst hn
  have HTT := Lib.hid HT
  have HAA := Lib.hid HA
  have HWF := Lib.hid hwf
  have HO0 := Lib.hid hO
  have HV := Lib.hid hV
  have HU := Lib.hid hu
  have HBI := Lib.hid hbits
  have hbig := HA.bigb
  have HI : Hid ((Tryz.prog.info? 66).map (·.size) = some tc.size) := by show _ = _; rw [HT.size]; exact info57
  clear HT HA hwf hO hV hu hbits
  go_enter Tryz.func63, Tryz.ntmps63
  go_wp2_with fail
  have HM := Lib.hid (MS.start w tc (fun _ => False) A l.length c (a : Int) none 0 0 most)
  generalize (World.alloc (World.alloc (World.alloc w _) _) _) = W at HM ⊢
  have HBE : Hid (∀ W, Chg w W (fun _ => False) → Below w.heap.size w W) := fun W h => h.below (Nat.le_refl _) (fun i hi => hi.elim)
  go_loopw [8] (fun s8 wx => ∃ (k : Nat) (Av : Option Addr) (cv : Nat), k ≤ V.length ∧ s8 = .slice Av k cv ∧ MS w wx tc (fun _ => False) A l.length c ((a : Int) + ((rowBits O (V.take k)).length : Int)) none 0 0 most ∧ wx.ownsRow (w.heap.size + 3) 3 1 (.slice Av k cv) k ((V.take k).map (.int .i64))) (fun s8 _ => V.length - sliceLen s8)
  case atStart => exact ⟨0, none, 0, by omega, rfl, by simpa [rowBits] using HM.out, World.ownsRow_nil _ _ _ _⟩
  case round =>
    clear HM
    obtain ⟨k, Av, cv, hk, rfl, hm, hown⟩ := hrel
    have HM := Lib.hid hm
    have HOW := Lib.hid hown
    obtain ⟨⟨a0, a1, a2, a3, a4, a5⟩, f0, f1, f2, f3, f4, f5⟩ := cells6 hm.st
    clear hm hown
    by_cases hlt : k < V.length
    · obtain ⟨v, hv⟩ : ∃ v, V[k]? = some v := ⟨_, List.getElem?_eq_getElem hlt⟩
      have hvm := List.mem_of_getElem? hv
      obtain ⟨s, rfl⟩ := Int.eq_ofNat_of_zero_le (HV.out v hvm).1
      have hs15 := (HV.out _ hvm).2
      have hus := HU.out _ hvm
      have hbt := rowBits_at HBI.out hv
      have hsn := rowBits_snoc O hv
      rw [Int.toNat_natCast] at hus hbt hsn
      have hdec := decode_at HO0.out (by omega) hbt
      have hbl := hbt.le
      have HTAKE := Lib.hid (take_snoc hv)
      have HTB := Lib.hid HM.out.tb
      generalize hp : (rowBits O (V.take k)).length = p at *
      generalize hcl : (codeBits O s).length = cl at *
      have HSN : Hid ((rowBits O (V.take (k + 1))).length = p + cl) := by show _ = _; rw [hsn, List.length_append, hp, hcl]
      have hcall : Calls Tryz.prog 60 #[.agg #[.slice A l.length c, .bool false, .int .i64 ((a : Int) + (p : Int)), .slice none 0 0, .int .i64 most, .int .i64 0], .agg tc] wr (fun e w' => e = .returned (.tuple #[.agg #[.slice A l.length c, .bool false, .int .i64 ((a : Int) + (p : Int) + (cl : Int)), .slice none 0 0, .int .i64 most, .int .i64 0], .int .i64 (s : Int)]) ∧ Below wr.heap.size wr w') := by
        have h := inext_any (a := a + p) (Ao := none) (no := 0) (co := 0) (c := c) (most := most) wr (HTT.out.below (HBE.out _ HM.out.chg) (Nat.le_refl _)) (HAA.out.below (HBE.out _ HM.out.chg) (Nat.le_refl _)) HWF.out (by omega) hdec
        unfold NextP stV at h
        rw [show ((a + p : Nat) : Int) = (a : Int) + (p : Int) from by push_cast; rfl, show ((a + p + cl : Nat) : Int) = (a : Int) + (p : Int) + (cl : Int) from by push_cast; rfl] at h
        exact h
      have HCALL := Lib.hid hcall
      clear hcall hdec hbt hsn hp hcl hv hvm hus
      have hdl : decide ((k : Int) < (V.length : Int)) = true := decide_eq_true (by omega)
      go_wp2_with (refine wpList_load_row rfl 66 (.tmp 4) rfl (w.heap.size + 1) rfl 66 tc (0, 0) _ HTB.out Tryz.underlying66 rfl HI.out ?_)
      refine HCALL.out.mono ?_
      rintro e w5 ⟨rfl, hb5⟩
      have HM5 := Lib.hid (HM.out.below hb5)
      have HO5 := Lib.hid (own_frame HOW.out (fun g hg => hb5.block g (HOW.out.lt g hg).2))
      clear hb5 a0 a1 a2 a3 a4 a5 f0 f1 f2 f3 f4 f5 HM HOW HTB HCALL
      obtain ⟨⟨a0, a1, a2, a3, a4, a5⟩, f0, f1, f2, f3, f4, f5⟩ := cells6 HM5.out.st
      go_upto_region 5 with (fail)
      obtain ⟨W6, hW6, hm6⟩ := HM5.out.store ((a : Int) + (p : Int) + (cl : Int)) none 0 0
      have hO6 : W6.ownsRow (w.heap.size + 3) 3 1 (.slice Av k cv) k ((V.take k).map (.int .i64)) := by
        obtain ⟨W7, hW7, -, hg7⟩ := HM5.out.st.all (.slice A l.length c) (.bool false) (.int .i64 ((a : Int) + (p : Int) + (cl : Int))) (.slice none 0 0) (.int .i64 most) (.int .i64 0)
        rw [hW6, ← hW7]
        exact own_frame HO5.out (fun g hg => hg7.block g (HO5.out.lt g hg).2 (fun e => by injection e with e; have := (HO5.out.lt g hg).1; omega))
      rw [← hW6]
      have HM6 := Lib.hid hm6
      have HO6 := Lib.hid hO6
      clear hW6 hm6 hO6 a0 a1 a2 a3 a4 a5 f0 f1 f2 f3 f4 f5 HM5 HO5
      obtain ⟨⟨a0, a1, a2, a3, a4, a5⟩, f0, f1, f2, f3, f4, f5⟩ := cells6 HM6.out.st
      have d16 : decide ((16 : Int) ≤ (s : Int)) = false := decide_eq_false (by omega)
      have dmany : decide ((V.length : Int) - (k : Int) < 1) = false := decide_eq_false (by omega)
      have hz := HM6.out.lt
      go_wp2_with fail
      go_loopw [8, 14] (fun s8 s14 wx => (s14 = .int .i64 0 ∧ s8 = .slice Av k cv ∧ W6 = wx) ∨ (s14 = .int .i64 1 ∧ ∃ (A2 : Option Addr) (c2 : Nat), s8 = .slice A2 (k + 1) c2 ∧ MS w wx tc (fun _ => False) A l.length c ((a : Int) + (p : Int) + (cl : Int)) none 0 0 most ∧ wx.ownsRow (w.heap.size + 3) 3 1 (.slice A2 (k + 1) c2) (k + 1) ((V.take (k + 1)).map (.int .i64)))) (fun _ s14 _ => 1 - (intOf s14).toNat)
      case atStart => exact .inl ⟨rfl, rfl, rfl⟩
      case round =>
        rcases hrel with ⟨rfl, rfl, rfl⟩ | ⟨rfl, A2, c2, rfl, hm7, ho7⟩
        · go_wp2_with (at_builtin; refine wpList_append_sl _ rfl (.tmp 82) (.tmp 84) _ rfl (w.heap.size + 3) 3 1 8 _ Tryz.underlying43 infoInt rfl (by omega) (.slice Av k cv) k _ rfl (HO6.out.alloc _) _ 1 1 [.int .i64 (s : Int)] rfl rfl (Bld.Sl.new W6 [.int .i64 (s : Int)] _) ?c1 ?c2 ?c3 ?c4 ?_)
          case c1 => simp [Value.oneCell']
          case c2 => unfold maxLen; omega
          case c3 => omega
          case c4 => simp; omega
          intro v' w7 hown7 hg7 hat7
          obtain ⟨A7, c7, rfl⟩ := own_form hown7
          have HO7 : Hid (w7.ownsRow (w.heap.size + 3) 3 1 (.slice A7 (k + 1) c7) (k + 1) ((V.take (k + 1)).map (.int .i64))) := by
            show World.ownsRow _ _ _ _ _ _ _
            rw [HTAKE.out, List.map_append, List.map_take]; exact hown7
          have HM7 : Hid (MS w w7 tc (fun _ => False) A l.length c ((a : Int) + (p : Int) + (cl : Int)) none 0 0 most) :=
            MS.grown (HM6.out.below ((Below.refl _ _).alloc (Nat.le_refl _) _)) hg7 (fun b e hb => by have := (HO6.out.lt b e).1; omega) (fun b e => by have := (HO6.out.lt b e).1; omega)
          clear hown7 hg7 hat7 a0 a1 a2 a3 a4 a5 f0 f1 f2 f3 f4 f5
          go_wp2_with fail
          go_roundw
          case rel => exact .inr ⟨rfl, A7, c7, rfl, HM7.out, HO7.out⟩
          case measure => simp [intOf]
        · have HM7 := Lib.hid hm7
          have HO7 := Lib.hid ho7
          clear hm7 ho7 a0 a1 a2 a3 a4 a5 f0 f1 f2 f3 f4 f5
          go_wp2_with fail
          go_roundw
          case rel => exact ⟨k + 1, A2, c2, by omega, rfl, by rw [HSN.out, Int.natCast_add, ← Int.add_assoc]; exact HM7.out, HO7.out⟩
          case measure => simp [sliceLen]; omega
    · obtain rfl : k = V.length := by omega
      have hdl : decide ((V.length : Int) < (V.length : Int)) = false := by simp
      have ht : V.take V.length = V := List.take_length
      rw [ht] at HM HOW a2
      obtain ⟨⟨b0, b1, b2, b3, b4, b5⟩, g0, g1, g2, g3, g4, g5⟩ := cells6 HM.out.rs
      have hz := HM.out.lt
      have hz0 : w.heap.size < wr.heap.size := by omega
      clear ht
      go_wp2_with fail
      obtain ⟨W3, hW3, hs3, hg3⟩ := HM.out.rs.all (.slice A l.length c) (.bool false) (.int .i64 ((a : Int) + ((rowBits O V).length : Int))) (.slice none 0 0) (.int .i64 most) (.int .i64 0)
      rw [← hW3]
      obtain ⟨⟨e0, e1, e2, e3, e4, e5⟩, -⟩ := cells6 hs3
      have hl3 := hs3.lt
      refine bodyPost_ret (v := .tuple #[.agg #[.slice A l.length c, .bool false, .int .i64 ((a : Int) + ((rowBits O V).length : Int)), .slice none 0 0, .int .i64 most, .int .i64 0], .slice Av V.length cv]) ?_ rfl ⟨Av, cv, by rw [Int.natCast_add], Def.own_base (own_frame HOW.out (fun g hg => hg3.block g (HOW.out.lt g hg).2 (fun e => by injection e with e; have := (HOW.out.lt g hg).1; omega))) (by omega), (HBE.out _ HM.out.chg).grown hg3 (by omega) (fun b e => by injection e with e; omega)⟩
      simp [results, Tryz.results63, go_sem, e0, e1, e2, e3, e4, e5, hl3]
end Go.Proofs.YtmgbjgjlddifaaaGreat.Inf
set_option linter.unusedVariables false
set_option linter.unusedSimpArgs false
namespace Go.Proofs.YtmgbjgjlddifaaaGreat.Inf
open Go.RowKit K Bits Pfx Def Wrt Bak Ref RefR RefT RefX

theorem head_at {x O : List Int} : ∀ (ns : List Nat) {a k n : Nat}, BitsAt x a (ns.flatMap (fun k => putV false (O.getD k 0) 3)) → ns[k]? = some n → BitsAt x (a + 3 * k) (putV false (O.getD n 0) 3)
  | [], a, k, n, _, hk => by simp at hk
  | m :: ns, a, k, n, h, hk => by
    rw [List.flatMap_cons] at h
    cases k with
    | zero =>
      simp at hk
      subst hk
      exact h.left
    | succ k =>
      have h2 := h.right
      rw [putV_length] at h2
      have := head_at ns h2 (by simpa using hk)
      rw [show a + 3 * (k + 1) = a + 3 + 3 * k by omega]
      exact this
def ordI : List Int := [16, 17, 18, 0, 8, 7, 9, 6, 10, 5, 11, 4, 12, 3, 13, 2, 14, 1, 15]
theorem ordI_get : ∀ k : Fin 19, ordI[k.val]? = some ((ordN.getD k.val 0 : Nat) : Int) ∧ ordN[k.val]? = some (ordN.getD k.val 0) ∧ ordN.getD k.val 0 < 19 := by decide
theorem ordN_all : ∀ j : Fin 19, j.val ∈ ordN := by decide
/-- the lengths that were read, in block q: k of them -/
def lenF (O : List Int) (k j : Nat) : Int := if j ∈ ordN.take k then O.getD j 0 else 0
theorem lenF_step {O : List Int} {k : Nat} (hk : k < 19) (j : Nat) : (if j = ordN.getD k 0 then O.getD (ordN.getD k 0) 0 else lenF O k j) = lenF O (k + 1) j := by
  have h := (ordI_get ⟨k, hk⟩).2.1
  simp only at h
  unfold lenF
  rw [take_snoc h]
  by_cases e : j = ordN.getD k 0
  · rw [if_pos e, if_pos (by rw [e]; simp), e]
  · rw [if_neg e]
    by_cases e2 : j ∈ ordN.take k
    · rw [if_pos e2, if_pos (by simp [e2])]
    · rw [if_neg e2, if_neg (by simp only [List.mem_append, List.mem_singleton, not_or]; exact ⟨e2, e⟩)]
theorem lenF_all {O : List Int} (hO : O.length = 19) : (List.range 19).map (lenF O 19) = O := by
  apply List.ext_getElem?
  intro i
  by_cases hi : i < 19
  · rw [List.getElem?_map, List.getElem?_range hi, List.getElem?_eq_getElem (by omega)]
    simp only [Option.map_some]
    unfold lenF
    rw [List.take_of_length_le (by decide), if_pos (ordN_all ⟨i, hi⟩), List.getD_eq_getElem?_getD, List.getElem?_eq_getElem (by omega)]
    rfl
  · rw [List.getElem?_eq_none (by simp; omega), List.getElem?_eq_none (by omega)]
/-- what the head of a block says -/
structure HeadAt (x : List Int) (a : Nat) (L D O : List Int) : Prop where
  l : L.length = 286
  d : D.length = 30
  o : O.length = 19
  chk : checkedOf O = 0
  bd : ∀ i, i < 19 → 0 ≤ O.getD i 0 ∧ O.getD i 0 ≤ 7
  row : ∀ v ∈ L ++ D, 0 ≤ v ∧ v ≤ 15
  use : ∀ v ∈ L ++ D, 0 < O.getD v.toNat 0
  mo : mayM O false = true
  ml : mayM L false = true
  md : mayM D true = true
  stop : L.getD 256 0 ≠ 0
  bits : BitsAt x a (putV false 29 5 ++ putV false 29 5 ++ putV false 15 4 ++ headBits O ++ rowBits O (L ++ D))
theorem HeadAt.parts {x : List Int} {a : Nat} {L D O : List Int} (h : HeadAt x a L D O) : takeV x false a 5 = 29 ∧ takeV x false (a + 5) 5 = 29 ∧ takeV x false (a + 10) 4 = 15 ∧ (∀ k, k < 19 → takeV x false (a + 14 + 3 * k) 3 = O.getD (ordN.getD k 0) 0) ∧ BitsAt x (a + 71) (rowBits O (L ++ D)) ∧ a + 71 ≤ 8 * x.length := by
  have hb := h.bits
  have hl : (putV false 29 5 ++ putV false 29 5 ++ putV false 15 4 : List Int).length = 14 := by simp [putV_length]
  have hh : (headBits O).length = 57 := by unfold headBits; rw [head_len]; rfl
  have b1 := hb.left.left.left.left
  have b2 := hb.left.left.left.right
  have b3 := hb.left.left.right
  have b4 := hb.left.right
  have b5 := hb.right
  rw [List.length_append, putV_length] at b3
  rw [putV_length] at b2
  rw [hl] at b4
  rw [List.length_append, hl, hh] at b5
  have hle := hb.left.le
  rw [List.length_append, hl, hh] at hle
  refine ⟨take_at b1 (by omega) (by decide), take_at b2 (by omega) (by decide), take_at b3 (by omega) (by decide), fun k hk => ?_, b5, by omega⟩
  have hg := (ordI_get ⟨k, hk⟩).2
  have hbd := h.bd (ordN.getD k 0) hg.2
  exact take_at (head_at ordN b4 hg.1) hbd.1 (show O.getD (ordN.getD k 0) 0 < 8 by omega)
theorem TS.storeG {w W : World} {S : Nat → Prop} {A Ao : Option Addr} {n c no co : Nat} {a most : Int} (h : TS w W S A n c a Ao no co most) (a2 : Int) (A2 : Option Addr) (no2 co2 : Nat) :
    ∃ W2, W2 = ((((((W.setCell ⟨w.heap.size, 0, none⟩ (.slice A n c)).setCell ⟨w.heap.size, 1, none⟩ (.bool false)).setCell ⟨w.heap.size, 2, none⟩ (.int .i64 a2)).setCell ⟨w.heap.size, 3, none⟩ (.slice A2 no2 co2)).setCell ⟨w.heap.size, 4, none⟩ (.int .i64 most)).setCell ⟨w.heap.size, 5, none⟩ (.int .i64 0)) ∧ TS w W2 S A n c a2 A2 no2 co2 most ∧ W.grownBy W2 (some w.heap.size) := by
  obtain ⟨W2, e, h1, h2⟩ := h.st.all (.slice A n c) (.bool false) (.int .i64 a2) (.slice A2 no2 co2) (.int .i64 most) (.int .i64 0)
  exact ⟨W2, e, h.set (f := fun _ => .bool false) h2 h1, h2⟩
/-- tables' memory in its loop -/
structure LT (w W : World) (q : Nat) (A : Option Addr) (n c : Nat) (a : Int) (most : Int) (f : Nat → Int) : Prop where
  ts : TS w W (fun _ => False) A n c a none 0 0 most
  ord : SI W .i64 (some ⟨q, 0, none⟩) 19 ordI
  row : W.rowIs (q + 1) 3 19 (fun j => .int .i64 (f j))
  lo : w.heap.size + 1 < q
section
variable {w W W2 : World} {q : Nat} {A : Option Addr} {n c : Nat} {a most : Int} {f : Nat → Int}
theorem LT.below (h : LT w W q A n c a most f) (hb : Below W.heap.size W W2) : LT w W2 q A n c a most f :=
  ⟨h.ts.below hb, h.ord.below hb (Nat.le_refl _), h.row.of_block (hb.block _ h.row.lt), h.lo⟩
theorem LT.store (h : LT w W q A n c a most f) (a2 : Int) :
    ∃ W2, W2 = ((((((W.setCell ⟨w.heap.size, 0, none⟩ (.slice A n c)).setCell ⟨w.heap.size, 1, none⟩ (.bool false)).setCell ⟨w.heap.size, 2, none⟩ (.int .i64 a2)).setCell ⟨w.heap.size, 3, none⟩ (.slice none 0 0)).setCell ⟨w.heap.size, 4, none⟩ (.int .i64 most)).setCell ⟨w.heap.size, 5, none⟩ (.int .i64 0)) ∧ LT w W2 q A n c a2 most f := by
  obtain ⟨W2, e, h1, h2⟩ := h.ts.storeG a2 none 0 0
  have hl := h.lo
  exact ⟨W2, e, h1, SI.grown h.ord h2 (fun b o s e => by injection e with e; injection e with e; omega), h.row.of_block (h2.block _ h.row.lt (fun e => by injection e with e; omega)), h.lo⟩
theorem LT.put {g : Nat → Int} (h : LT w W q A n c a most f) (o : Nat) (v : Int) (hg : ∀ j, (if j = o then v else f j) = g j) : LT w (W.setCell ⟨q + 1, o, none⟩ (.int .i64 v)) q A n c a most g := by
  have hs := set_grown W (q + 1) o (.int .i64 v)
  have hl := h.lo
  refine ⟨TS.grown h.ts hs (fun b e hb => by injection e with e; omega) (fun b e => by injection e with e; omega), SI.grown h.ord hs (fun b o s e => by injection e with e; injection e with e; omega), (h.row.set o (.int .i64 v)).congr (fun j hj => ?_), hl⟩
  rw [← hg j]
  split <;> rfl
end
theorem si_take {w : World} {k : IntKind} {A : Option Addr} {n m : Nat} {l : List Int} (h : SI w k A n l) (hm : m ≤ n) : SI w k A m (l.take m) :=
  ⟨by rw [List.length_take, h.len]; omega, Nat.le_trans (Nat.mul_le_mul_right _ hm) h.sz, fun j u hu => by
    rw [List.getElem?_map, List.getElem?_take] at hu
    by_cases hj : j < m
    · rw [if_pos hj] at hu
      exact h.sl j u (by rw [List.getElem?_map]; exact hu)
    · rw [if_neg hj] at hu; cases hu⟩
theorem si_drop {w : World} {k : IntKind} {b o n m : Nat} {l : List Int} (h : SI w k (some ⟨b, o, none⟩) n l) (hm : m ≤ n) : SI w k (some ⟨b, o + m, none⟩) (n - m) (l.drop m) :=
  ⟨by rw [List.length_drop, h.len], Nat.le_trans (Nat.mul_le_mul_right _ (Nat.sub_le _ _)) h.sz, fun j u hu => by
    rw [List.getElem?_map, List.getElem?_drop] at hu
    obtain ⟨b', o', e, hc⟩ := h.sl (m + j) u (by rw [List.getElem?_map]; exact hu)
    injection e with e
    injection e with e1 e2
    subst e1 e2
    exact ⟨b, o + m, rfl, by rw [Nat.add_assoc]; exact hc⟩⟩
def TablesP (w : World) (A : Option Addr) (n c : Nat) (a : Int) (most : Int) (L D : List Int) (e : Ending) (w' : World) : Prop :=
  ∃ AL cL AD cD, e = .returned (.tuple #[.agg #[.slice A n c, .bool false, .int .i64 a, .slice none 0 0, .int .i64 most, .int .i64 0], .slice AL 286 cL, .slice AD 30 cD]) ∧ SI w' .i64 AL 286 L ∧ SI w' .i64 AD 30 D ∧ Below w.heap.size w w' ∧ (∀ g q s, AL = some ⟨g, q, s⟩ → w.heap.size ≤ g) ∧ ∀ g q s, AD = some ⟨g, q, s⟩ → w.heap.size ≤ g
/-- row, in the words of tables' walk -/
theorem row_form {x L D O : List Int} {A : Option Addr} {c a lo : Nat} {most : Int} {tc : Array Value} (W : World) (hT : Tab lo W O tc) (HX : SI W .u8 A x.length x) (hwf : ∀ y ∈ x, 0 ≤ y ∧ y < 256) (hh : HeadAt x a L D O) (hb : BitsAt x (a + 71) (rowBits O (L ++ D))) :
    Calls Tryz.prog 63 #[.agg #[.slice A x.length c, .bool false, .int .i64 ((a : Int) + 71), .slice none 0 0, .int .i64 most, .int .i64 0], .agg tc, .int .i64 316] W fun e w' =>
      ∃ g cr, e = .returned (.tuple #[.agg #[.slice A x.length c, .bool false, .int .i64 ((a : Int) + 71 + ((rowBits O (L ++ D)).length : Int)), .slice none 0 0, .int .i64 most, .int .i64 0], .slice (some ⟨g, 0, none⟩) 316 cr]) ∧ (W.heap.size ≤ g ∧ SI w' .i64 (some ⟨g, 0, none⟩) 316 (L ++ D)) ∧ 316 ≤ cr ∧ Below W.heap.size W w' := by
  have hl : (L ++ D).length = 316 := by rw [List.length_append, hh.l, hh.d]
  have h := rrow_any (a := a + 71) (c := c) (most := most) W hT HX hwf hh.chk hh.row hh.use hb hl (by omega)
  refine h.mono ?_
  rintro e w' ⟨A1, c1, rfl, ho, hb⟩
  rw [hl] at ho ⊢
  obtain ⟨g, rfl, hg⟩ : ∃ g, A1 = some ⟨g, 0, none⟩ ∧ W.heap.size ≤ g := by
    rcases ho.2 with ⟨hv, h1⟩ | ⟨g, cap, cur, hv, hb, -⟩
    · omega
    · injection hv with hv; exact ⟨g, hv, hb⟩
  have hcap : 316 ≤ c1 := by
    rcases ho.2 with ⟨hv, h1⟩ | ⟨g, cap, cur, hv, _, _, hn, _⟩
    · omega
    · injection hv with _ _ hc; omega
  exact ⟨g, c1, by push_cast; rfl, ⟨hg, SI.of_own ho (by decide)⟩, hcap, hb⟩
set_option maxRecDepth 20000 in
set_option maxHeartbeats 8000000 in
theorem rtables_any {x L D O : List Int} {A : Option Addr} {c a : Nat} {most : Int} (w : World) (HX : SI w .u8 A x.length x) (hwf : ∀ y ∈ x, 0 ≤ y ∧ y < 256) (hh : HeadAt x a L D O) :
    Calls Tryz.prog 31 #[.agg #[.slice A x.length c, .bool false, .int .i64 (a : Int), .slice none 0 0, .int .i64 most, .int .i64 0]] w (TablesP w A x.length c ((a : Int) + 71 + ((rowBits O (L ++ D)).length : Int)) most L D) := by
  have hmk : ∀ w, (Instr.makeSlice 43 (.int .i64 19) (.int .i64 19)).run Tryz.prog w = .ok (.slice (some ⟨w.heap.size, 0, none⟩) 19 19) (w.alloc (.cells (madeCells #[.int .i64 0] 19) 3)) :=
    fun w => run_make_row' (P := Tryz.prog) 43 3 (.int .i64 0) 8 Tryz.underlying43 Cat.infoInt rfl .i64 .i64 19 (by omega) (by omega) w
  have HXX := Lib.hid HX
  have HWF := Lib.hid hwf
  have HH := Lib.hid hh
  have HP := Lib.hid hh.parts
  have hbig := HX.bigb
  have hle := hh.parts.2.2.2.2.2
  clear HX hwf hh
  go_enter Tryz.func31, Tryz.ntmps31
  go_wp2_with fail
  have HT := Lib.hid (TS.start w (fun _ => False) A x.length c (a : Int) none 0 0 most)
  generalize (World.alloc (World.alloc w _) _) = W at HT ⊢
  have HBE : Hid (∀ W, Chg w W (fun _ => False) → Below w.heap.size w W) := fun W h => h.below (Nat.le_refl _) (fun i hi => hi.elim)
  obtain ⟨⟨a0, a1, a2, a3, a4, a5⟩, f0, f1, f2, f3, f4, f5⟩ := cells6 HT.out.st
  have HCALL := Lib.hid (take_form (a := a) (k := 5) (c := c) (Ao := none) (no := 0) (co := 0) (most := most) (a0 := (a : Int)) (kk := 5) (a1 := (a : Int) + 5) (v := 29) W (HXX.out.below (HBE.out _ HT.out.chg) (Nat.le_refl _)) HWF.out (by omega) (by omega) rfl rfl rfl HP.out.1)
  go_wp2_with fail
  refine HCALL.out.mono ?_
  rintro e w1 ⟨rfl, hb1⟩
  have HT1 := Lib.hid (HT.out.below hb1)
  clear hb1 HT HCALL a0 a1 a2 a3 a4 a5 f0 f1 f2 f3 f4 f5
  obtain ⟨⟨a0, a1, a2, a3, a4, a5⟩, f0, f1, f2, f3, f4, f5⟩ := cells6 HT1.out.st
  go_upto_region 3 with (fail)
  obtain ⟨W2, hW2, ht2⟩ := HT1.out.store ((a : Int) + 5) none 0 0
  rw [← hW2]
  have HT2 := Lib.hid ht2
  clear hW2 ht2 HT1 a0 a1 a2 a3 a4 a5 f0 f1 f2 f3 f4 f5
  obtain ⟨⟨a0, a1, a2, a3, a4, a5⟩, f0, f1, f2, f3, f4, f5⟩ := cells6 HT2.out.st
  have HCALL := Lib.hid (take_form (a := a + 5) (k := 5) (c := c) (Ao := none) (no := 0) (co := 0) (most := most) (a0 := (a : Int) + 5) (kk := 5) (a1 := (a : Int) + 10) (v := 29) W2 (HXX.out.below (HBE.out _ HT2.out.chg) (Nat.le_refl _)) HWF.out (by omega) (by omega) (by omega) rfl (by omega) HP.out.2.1)
  go_wp2_with fail
  refine HCALL.out.mono ?_
  rintro e w3 ⟨rfl, hb3⟩
  have HT3 := Lib.hid (HT2.out.below hb3)
  clear hb3 HT2 HCALL a0 a1 a2 a3 a4 a5 f0 f1 f2 f3 f4 f5
  obtain ⟨⟨a0, a1, a2, a3, a4, a5⟩, f0, f1, f2, f3, f4, f5⟩ := cells6 HT3.out.st
  go_upto_region 5 with (fail)
  obtain ⟨W4, hW4, ht4⟩ := HT3.out.store ((a : Int) + 10) none 0 0
  rw [← hW4]
  have HT4 := Lib.hid ht4
  clear hW4 ht4 HT3 a0 a1 a2 a3 a4 a5 f0 f1 f2 f3 f4 f5
  obtain ⟨⟨a0, a1, a2, a3, a4, a5⟩, f0, f1, f2, f3, f4, f5⟩ := cells6 HT4.out.st
  have HCALL := Lib.hid (take_form (a := a + 10) (k := 4) (c := c) (Ao := none) (no := 0) (co := 0) (most := most) (a0 := (a : Int) + 10) (kk := 4) (a1 := (a : Int) + 14) (v := 15) W4 (HXX.out.below (HBE.out _ HT4.out.chg) (Nat.le_refl _)) HWF.out (by omega) (by omega) (by omega) rfl (by omega) HP.out.2.2.1)
  go_wp2_with fail
  refine HCALL.out.mono ?_
  rintro e w5 ⟨rfl, hb5⟩
  have HT5 := Lib.hid (HT4.out.below hb5)
  clear hb5 HT4 HCALL a0 a1 a2 a3 a4 a5 f0 f1 f2 f3 f4 f5
  obtain ⟨⟨a0, a1, a2, a3, a4, a5⟩, f0, f1, f2, f3, f4, f5⟩ := cells6 HT5.out.st
  go_upto_region 7 with (fail)
  obtain ⟨W6, hW6, ht6⟩ := HT5.out.store ((a : Int) + 14) none 0 0
  rw [← hW6]
  have HT6 := Lib.hid ht6
  clear hW6 ht6 HT5 a0 a1 a2 a3 a4 a5 f0 f1 f2 f3 f4 f5
  obtain ⟨⟨a0, a1, a2, a3, a4, a5⟩, f0, f1, f2, f3, f4, f5⟩ := cells6 HT6.out.st
  have hz6 : w.heap.size + 1 < W6.heap.size := HT6.out.lt
  go_upto_region 14 with (fail)
  have HL0 : Hid (LT w ((W6.alloc (.cells #[.int .i64 16, .int .i64 17, .int .i64 18, .int .i64 0, .int .i64 8, .int .i64 7, .int .i64 9, .int .i64 6, .int .i64 10, .int .i64 5, .int .i64 11, .int .i64 4, .int .i64 12, .int .i64 3, .int .i64 13, .int .i64 2, .int .i64 14, .int .i64 1, .int .i64 15] 3)).alloc (.cells (madeCells #[.int .i64 0] 19) 3)) W6.heap.size A x.length c ((a : Int) + 14) most (lenF O 0)) := by
    refine ⟨(HT6.out.below ((Below.refl _ _).alloc (Nat.le_refl _) _)).below ((Below.refl _ _).alloc (Nat.le_refl _) _), (SI.lit0 W6 .i64 ordI 3 (by decide)).alloc _, ?_, hz6⟩
    have h0 := made0 (W6.alloc (.cells #[.int .i64 16, .int .i64 17, .int .i64 18, .int .i64 0, .int .i64 8, .int .i64 7, .int .i64 9, .int .i64 6, .int .i64 10, .int .i64 5, .int .i64 11, .int .i64 4, .int .i64 12, .int .i64 3, .int .i64 13, .int .i64 2, .int .i64 14, .int .i64 1, .int .i64 15] 3)) 19
    rw [World.size_alloc] at h0
    exact h0.congr (fun j hj => by simp [lenF])
  generalize hW7 : ((W6.alloc (.cells #[.int .i64 16, .int .i64 17, .int .i64 18, .int .i64 0, .int .i64 8, .int .i64 7, .int .i64 9, .int .i64 6, .int .i64 10, .int .i64 5, .int .i64 11, .int .i64 4, .int .i64 12, .int .i64 3, .int .i64 13, .int .i64 2, .int .i64 14, .int .i64 1, .int .i64 15] 3)).alloc (.cells (madeCells #[.int .i64 0] 19) 3)) = W7 at HL0
  try rw [hW7]
  generalize hq : W6.heap.size = q at HL0 hz6
  clear hW7 HT6 a0 a1 a2 a3 a4 a5 f0 f1 f2 f3 f4 f5
  try rw [hq]
  clear hq
  go_wp2_with fail
  go_loopw [10] (fun s10 wx => ∃ k : Nat, k ≤ 19 ∧ s10 = .int .i64 k ∧ LT w wx q A x.length c ((a : Int) + 14 + 3 * (k : Int)) most (lenF O k)) (fun s10 _ => 19 - (intOf s10).toNat)
  case atStart => exact ⟨0, by omega, rfl, by simpa using HL0.out⟩
  case round =>
    clear HL0
    obtain ⟨k, hk, rfl, hlt0⟩ := hrel
    have HL := Lib.hid hlt0
    obtain ⟨⟨a0, a1, a2, a3, a4, a5⟩, f0, f1, f2, f3, f4, f5⟩ := cells6 hlt0.ts.st
    clear hlt0
    by_cases hlt : k < 19
    · have hd : decide ((k : Int) < 19) = true := decide_eq_true (by omega)
      obtain ⟨go1, go2, go3⟩ := ordI_get ⟨k, hlt⟩
      simp only at go1 go2 go3
      have HST := Lib.hid (fun j => lenF_step (O := O) hlt j)
      have HCALL := Lib.hid (take_form (a := a + 14 + 3 * k) (k := 3) (c := c) (Ao := none) (no := 0) (co := 0) (most := most) (a0 := (a : Int) + 14 + 3 * (k : Int)) (kk := 3) (a1 := (a : Int) + 14 + 3 * (k : Int) + 3) (v := O.getD (ordN.getD k 0) 0) wr (HXX.out.below (HBE.out _ HL.out.ts.chg) (Nat.le_refl _)) HWF.out (by omega) (by omega) (by omega) rfl rfl (HP.out.2.2.2.1 k hlt))
      generalize ordN.getD k 0 = o at *
      generalize O.getD o 0 = v at *
      clear go2
      have GO1 := Lib.hid go1
      clear go1
      go_wp2_with fail
      refine HCALL.out.mono ?_
      rintro e w8 ⟨rfl, hb8⟩
      have HL8 := Lib.hid (HL.out.below hb8)
      clear hb8 HL HCALL a0 a1 a2 a3 a4 a5 f0 f1 f2 f3 f4 f5
      obtain ⟨⟨a0, a1, a2, a3, a4, a5⟩, f0, f1, f2, f3, f4, f5⟩ := cells6 HL8.out.ts.st
      go_upto_region 19 with (fail)
      obtain ⟨W9, hW9, hl9⟩ := HL8.out.store ((a : Int) + 14 + 3 * (k : Int) + 3)
      rw [← hW9]
      have HL9 := Lib.hid hl9
      clear hW9 hl9 HL8 a0 a1 a2 a3 a4 a5 f0 f1 f2 f3 f4 f5
      obtain ⟨⟨a0, a1, a2, a3, a4, a5⟩, f0, f1, f2, f3, f4, f5⟩ := cells6 HL9.out.ts.st
      obtain ⟨b1, o1, y, e1, hc1, hy, -⟩ := HL9.out.ord.cells (i := k) hlt
      injection e1 with e1
      injection e1 with e2 e3
      subst e2 e3
      have hyo := hy.out.symm.trans GO1.out
      injection hyo with hyo
      subst hyo
      rw [Nat.zero_add] at hc1
      have hrc := HL9.out.row.cell (i := o) go3
      have hrf := HL9.out.row.frozen o
      have hrl := HL9.out.row.lt
      generalize lenF O k o = u at hrc
      have hk0 : (0 : Int) ≤ (k : Int) := by omega
      have hk1 : (k : Int) < 19 := by omega
      have ho0 : (0 : Int) ≤ (o : Int) := by omega
      have ho1 : (o : Int) < 19 := by omega
      go_wp2_with fail
      have hl10 := HL9.out.put o v HST.out
      go_roundw
      case rel => exact ⟨k + 1, by omega, by go_num, by rw [show (a : Int) + 14 + 3 * ((k + 1 : Nat) : Int) = (a : Int) + 14 + 3 * (k : Int) + 3 from by omega]; exact hl10⟩
      case measure => simp [intOf]; omega
    · obtain rfl : k = 19 := by omega
      have hd : decide ((19 : Int) < 19) = false := by decide
      have e71 : (a : Int) + 14 + 3 * ((19 : Nat) : Int) = (a : Int) + 71 := by omega
      rw [e71] at HL a2
      clear e71
      have hso : SI wr .i64 (some ⟨q + 1, 0, none⟩) 19 O := by
        have h := SI.of_row HL.out.row (by decide)
        rwa [lenF_all HH.out.o] at h
      have HSO := Lib.hid hso
      have HMO : Hid (Calls Tryz.prog 62 #[.slice (some ⟨q + 1, 0, none⟩) 19 19, .bool false] wr (fun e w' => e = .returned (.bool true) ∧ wr = w')) := by
        have h := rmay_any (c := 19) (no := false) wr hso
        unfold MayP at h
        rwa [HH.out.mo] at h
      clear hso
      go_wp2_with fail
      refine HMO.out.mono ?_
      rintro e w' ⟨rfl, rfl⟩
      go_upto_region 26 with (fail)
      have HL1 := Lib.hid (HL.out.below (Below.refl _ wr).drew)
      have HSO1 := Lib.hid (HSO.out.below (Below.refl _ wr).drew (Nat.le_refl _))
      clear HL HSO HMO a0 a1 a2 a3 a4 a5 f0 f1 f2 f3 f4 f5
      obtain ⟨⟨a0, a1, a2, a3, a4, a5⟩, f0, f1, f2, f3, f4, f5⟩ := cells6 HL1.out.ts.st
      go_region_with (first
        | (go_at_call 30
           (with_reducible refine (tabled_any _ HSO1.out (by omega)).mono ?_)
           rintro e wx ⟨hbx, cO, rfl, hTO, -⟩
           have HL1 := Lib.hid (HL1.out.below hbx)
           have HSO1 := Lib.hid (HSO1.out.below hbx (Nat.le_refl _))
           clear hbx
           obtain ⟨⟨a0, a1, a2, a3, a4, a5⟩, f0, f1, f2, f3, f4, f5⟩ := cells6 HL1.out.ts.st)
        | (go_at_call 63
           refine (row_form wx hTO (HXX.out.below (HBE.out _ HL1.out.ts.chg) (Nat.le_refl _)) HWF.out HH.out HP.out.2.2.2.2.1).mono ?_
           rintro e wx ⟨gr, cr, rfl, hor, hcr, hbx⟩
           have HGN : Hid (w.heap.size + 1 < gr) := Nat.lt_of_lt_of_le HL1.out.ts.lt hor.1
           have HL1 := Lib.hid (HL1.out.below hbx)
           have HOR := Lib.hid hor
           clear hbx hor hTO
           obtain ⟨⟨a0, a1, a2, a3, a4, a5⟩, f0, f1, f2, f3, f4, f5⟩ := cells6 HL1.out.ts.st))
      all_goals (
        obtain ⟨W9, hW9, ht9, hg9⟩ := HL1.out.ts.storeG ((a : Int) + 71 + ((rowBits O (L ++ D)).length : Int)) none 0 0
        rw [← hW9]
        have HT9 := Lib.hid ht9
        have hor9 : SI W9 .i64 (some ⟨gr, 0, none⟩) 316 (L ++ D) := SI.grown HOR.out.2 hg9 (fun b o s e => by injection e with e; injection e with e; have := HGN.out; omega)
        have hsl : SI W9 .i64 (some ⟨gr, 0, none⟩) 286 L := by
          have h := si_take (m := 286) hor9 (by omega)
          rwa [List.take_left' HH.out.l] at h
        have hsd : SI W9 .i64 (some ⟨gr, 286, none⟩) 30 D := by
          have h := si_drop (m := 286) hor9 (by omega)
          rwa [List.drop_left' HH.out.l, Nat.zero_add] at h
        have HSL := Lib.hid hsl
        have HSD := Lib.hid hsd
        clear hW9 ht9 hg9 hor9 hsl hsd HL1 HSO1 HOR a0 a1 a2 a3 a4 a5 f0 f1 f2 f3 f4 f5
        obtain ⟨⟨a0, a1, a2, a3, a4, a5⟩, f0, f1, f2, f3, f4, f5⟩ := cells6 HT9.out.st
        have h1 : (286 : Int) ≤ (cr : Int) := by omega
        have hcr1 : cr ≠ 286 := by omega
        go_wp2_with fail
        go_quiet (fail)
        have HT10 := Lib.hid (HT9.out.below (below_drewN (Below.refl _ W9) nq))
        have HSL10 := Lib.hid (HSL.out.below (below_drewN (Below.refl _ W9) nq) (Nat.le_refl _))
        have HSD10 := Lib.hid (HSD.out.below (below_drewN (Below.refl _ W9) nq) (Nat.le_refl _))
        generalize W9.drewN nq = W10 at HT10 HSL10 HSD10 ⊢
        obtain ⟨b9, o9, v9, e9, hc9, hv9, -⟩ := HSL10.out.cells (i := 256) (by omega)
        injection e9 with e9
        injection e9 with e9 e9'
        subst e9 e9'
        rw [Nat.zero_add] at hc9
        have hv0 : (v9 == (0 : Int)) = false := by
          have h := HH.out.stop
          rw [getD_of hv9.out] at h
          simp [h]
        have HML : Hid (Calls Tryz.prog 62 #[.slice (some ⟨gr, 0, none⟩) 286 cr, .bool false] W10 (fun e w' => e = .returned (.bool true) ∧ W10 = w')) := by
          have h := rmay_any (c := cr) (no := false) W10 HSL10.out
          unfold MayP at h
          rwa [HH.out.ml] at h
        have HMD : Hid (Calls Tryz.prog 62 #[.slice (some ⟨gr, 286, none⟩) 30 (cr - 286), .bool true] W10 (fun e w' => e = .returned (.bool true) ∧ W10 = w')) := by
          have h := rmay_any (c := cr - 286) (no := true) W10 HSD10.out
          unfold MayP at h
          rwa [HH.out.md] at h
        clear a0 a1 a2 a3 a4 a5 f0 f1 f2 f3 f4 f5 hv9
        go_wp2_with fail
        refine HML.out.mono ?_
        rintro e w' ⟨rfl, rfl⟩
        go_wp2_with fail
        refine HMD.out.mono ?_
        rintro e w' ⟨rfl, rfl⟩
        obtain ⟨⟨a0, a1, a2, a3, a4, a5⟩, f0, f1, f2, f3, f4, f5⟩ := cells6 HT10.out.st
        obtain ⟨⟨b0, b1, b2, b3, b4, b5⟩, g0, g1, g2, g3, g4, g5⟩ := cells6 HT10.out.rs
        have hz10 := HT10.out.lt
        have hz10' : w.heap.size < W10.heap.size := by omega
        clear hc9
        go_wp2_with fail
        obtain ⟨W3, hW3, hs3, hg3⟩ := HT10.out.rs.all (.slice A x.length c) (.bool false) (.int .i64 ((a : Int) + 71 + ((rowBits O (L ++ D)).length : Int))) (.slice none 0 0) (.int .i64 most) (.int .i64 0)
        rw [← hW3]
        obtain ⟨⟨e0, e1, e2, e3, e4, e5⟩, -⟩ := cells6 hs3
        have hl3 := hs3.lt
        refine bodyPost_ret (v := .tuple #[.agg #[.slice A x.length c, .bool false, .int .i64 ((a : Int) + 71 + ((rowBits O (L ++ D)).length : Int)), .slice none 0 0, .int .i64 most, .int .i64 0], .slice (some ⟨gr, 0, none⟩) 286 cr, .slice (some ⟨gr, 286, none⟩) 30 (cr - 286)]) ?_ rfl
          ⟨_, _, _, _, rfl, SI.grown HSL10.out hg3 (fun b o s e => by injection e with e; injection e with e; have := HGN.out; omega), SI.grown HSD10.out hg3 (fun b o s e => by injection e with e; injection e with e; have := HGN.out; omega), (HBE.out _ HT10.out.chg).grown hg3 (by omega) (fun b e => by injection e with e; omega), (fun g q s e => by injection e with e; injection e with e; have := HGN.out; omega), (fun g q s e => by injection e with e; injection e with e; have := HGN.out; omega)⟩
        simp [results, Tryz.results31, go_sem, e0, e1, e2, e3, e4, e5, hl3])
end Go.Proofs.YtmgbjgjlddifaaaGreat.Inf
set_option linter.unusedVariables false
set_option linter.unusedSimpArgs false
namespace Go.Proofs.YtmgbjgjlddifaaaGreat.Inf
open Go.RowKit K Bits Pfx Def Wrt Bak Ref RefR RefT RefX

theorem litsL_pos {ps : List Pc} {j : Nat} (hj : j < 286) (h : 0 < cntL ps ps.length j) : 0 < (litsL ps).getD j 0 := by
  unfold litsL
  rw [range_getD _ hj]; omega
theorem distsL_pos {ps : List Pc} {j : Nat} (hj : j < 30) (h : 0 < cntD ps ps.length j) : 0 < (distsL ps).getD j 0 := by
  unfold distsL
  rw [range_getD _ hj]; omega
theorem cntL_mem {ps : List Pc} {p : Pc} (h : p ∈ ps) : 0 < cntL ps ps.length (symL p) := by
  unfold cntL
  rw [List.take_length]
  have := List.count_pos_iff.2 (List.mem_map_of_mem (f := symL) h)
  omega
theorem cntL_stop (ps : List Pc) : 0 < cntL ps ps.length 256 := by unfold cntL; rw [if_pos rfl]; omega
theorem cntD_mem {ps : List Pc} {p : Pc} (h : p ∈ ps) (h0 : p.n ≠ 0) : 0 < cntD ps ps.length (distM p.back).1 := by
  unfold cntD
  rw [List.take_length]
  exact List.count_pos_iff.2 (List.mem_filterMap.2 ⟨p, h, by unfold symD; rw [if_neg h0]⟩)
theorem lit_pos {ps : List Pc} {L : List Int} {j : Nat} (hL : GoodC (litsL ps) 15 L) (hj : j < 286) (h : 0 < cntL ps ps.length j) : 0 < L.getD j 0 :=
  (hL.fit j (by simp [litsL]; omega)).2.2.2 (litsL_pos hj h)
theorem dist_pos {ps : List Pc} {D : List Int} {j : Nat} (hD : GoodC (distsL ps) 15 D) (hj : j < 30) (h : 0 < cntD ps ps.length j) : 0 < D.getD j 0 :=
  (hD.fit j (by simp [distsL]; omega)).2.2.2 (distsL_pos hj h)
theorem dyn_use {ps : List Pc} {L D : List Int} (hL : GoodC (litsL ps) 15 L) (hD : GoodC (distsL ps) 15 D) (hok : OkPs [] ps) : Use L D ps := by
  have hp : ∀ (ps2 : List Pc) (o : List Int), OkPs o ps2 → ∀ p ∈ ps2, (p.n = 0 → p.b < 256) ∧ (p.n ≠ 0 → 3 ≤ p.n ∧ p.n ≤ 258 ∧ 1 ≤ p.back ∧ p.back ≤ 32768) := by
    intro ps2
    induction ps2 with
    | nil => intro o _ p hp; cases hp
    | cons q ps2 ih =>
      intro o h p hp
      rcases List.mem_cons.1 hp with rfl | hp
      · rcases h.1 with ⟨h1, h2⟩ | ⟨h1, h2, h3, h4, -⟩
        · exact ⟨fun _ => h2, fun h => absurd h1 h⟩
        · exact ⟨fun h => by omega, fun _ => ⟨h1, h2, h3, h4⟩⟩
      · exact ih _ h.2 p hp
  refine ⟨fun p hm => ?_, ?_⟩
  · have h1 := hp ps [] hok p hm
    refine ⟨fun h0 => ?_, fun h0 => ?_⟩
    · have := lit_pos hL (j := p.b) (by have := h1.1 h0; omega) (by have h := cntL_mem hm; unfold symL at h; rwa [if_pos h0] at h)
      omega
    · obtain ⟨a1, a2, a3, a4⟩ := h1.2 h0
      have b1 := lengthM_bd a1 a2
      have b2 := distM_bd a3 a4
      have c1 := lit_pos hL (j := (lengthM p.n).1) (by omega) (by have h := cntL_mem hm; unfold symL at h; rwa [if_neg h0] at h)
      have c2 := dist_pos hD (j := (distM p.back).1) (by omega) (cntD_mem hm h0)
      exact ⟨by omega, by omega⟩
  · have := lit_pos hL (j := 256) (by omega) (cntL_stop ps)
    omega
theorem dyn_read {b x L D O : List Int} {m : Nat} (hL : GoodC (litsL (psOf b)) 15 L) (hD : GoodC (distsL (psOf b)) 15 D) (hO : GoodC (rowL (L ++ D)) 7 O) (hpk : On x m (dynS b L D O)) :
    takeV x false 0 1 = 1 ∧ takeV x false 1 2 = 2 ∧ HeadAt x 3 L D O ∧ BitsAt x (74 + (rowBits O (L ++ D)).length) (bodyBits L D (psOf b)) := by
  have hb := hpk.at0
  unfold dynS dynBits at hb
  have e : putV false 5 3 = putV false 1 1 ++ putV false 2 2 := by decide
  have h1 := hb.left
  have h2 := hb.right
  rw [putV_length, Nat.zero_add] at h2
  rw [e] at h1
  have h3 := h1.right
  rw [putV_length, Nat.zero_add] at h3
  have lL := lits_len hL
  have lD := dists_len hD
  have lO := row_len hO
  have h256 := lit_pos hL (j := 256) (by omega) (cntL_stop (psOf b))
  have hu := row_use hO (row_mem hL hD)
  have hl : (putV false 29 5 ++ putV false 29 5 ++ putV false 15 4 : List Int).length = 14 := by simp [putV_length]
  have hh : (headBits O).length = 57 := by unfold headBits; rw [head_len]; rfl
  refine ⟨take_at h1.left (by omega) (by decide), take_at h3 (by omega) (by decide), ⟨lL, lD, lO, hO.chk, fun i hi => by have := hO.fit i (by simp [Def.rowL]; omega); omega, row_mem hL hD, hu, ?_, may_good hL false (.inr ⟨256, by omega, h256⟩), may_good hD true (.inl rfl), by omega, ?_⟩, ?_⟩
  · obtain ⟨v, hv⟩ : ∃ v, v ∈ L ++ D := ⟨L[0]'(by omega), List.mem_append_left _ (List.getElem_mem _)⟩
    have h4 := hu v hv
    refine may_good hO false (.inr ⟨v.toNat, ?_, h4⟩)
    rcases Nat.lt_or_ge v.toNat O.length with h5 | h5
    · exact h5
    · rw [List.getD_eq_getElem?_getD, List.getElem?_eq_none h5] at h4; simp at h4
  · exact h2.left
  · have h6 := h2.right
    simp only [List.length_append, hh, putV_length] at h6
    rw [show 74 + (rowBits O (L ++ D)).length = 3 + (5 + 5 + 4 + 57 + (rowBits O (L ++ D)).length) by omega]
    exact h6
theorem symbols_sit2 {w W : World} {q : Nat} {x : List Int} {A : Option Addr} {c : Nat} {most : Int} {a : Nat} {L D : List Int} {AL AD : Option Addr} {nl nd : Nat} {lo lo2 : Nat} {cL cD : Array Value} {ps : List Pc} {b : List Int} {a0 : Int} (h : Sit w W q x A c most a L D AL AD nl nd) (h0 : (a : Int) = a0) (hTL : Tab lo W L cL) (hTD : Tab lo2 W D cD) (hwf : ∀ y ∈ x, 0 ≤ y ∧ y < 256)
    (hL : checkedOf L = 0) (hD : checkedOf D = 0) (hok : OkPs [] ps) (hex : expand [] ps = b) (hu : Use L D ps) (hbits : BitsAt x a (bodyBits L D ps)) (hmost : (b.length : Int) ≤ most) (hmb : most ≤ 2000000) :
    Calls Tryz.prog 29 #[.agg #[.slice A x.length c, .bool false, .int .i64 a0, .slice none 0 0, .int .i64 most, .int .i64 0], .agg cL, .agg cD] W (SymsS W x A c most (a0 + ((bodyBits L D ps).length : Int)) b) := by
  subst h0
  exact symbols_sit h hTL hTD hwf hL hD hok hex hu hbits hmost hmb
set_option maxRecDepth 20000 in
set_option maxHeartbeats 8000000 in
theorem rraw_dyn_on {b x L D O : List Int} {m : Nat} {A : Option Addr} {c : Nat} {most : Int} (w : World) (HX : SI w .u8 A x.length x) (hwf : ∀ y ∈ x, 0 ≤ y ∧ y < 256) (hwb : ∀ y ∈ b, 0 ≤ y ∧ y < 256)
    (hL : GoodC (litsL (psOf b)) 15 L) (hD : GoodC (distsL (psOf b)) 15 D) (hO : GoodC (rowL (L ++ D)) 7 O) (hpk : On x m (dynS b L D O)) (hm : (b.length : Int) ≤ most) (hmb : most ≤ 2000000) :
    Calls Tryz.prog 11 #[.slice A x.length c, .int .i64 most] w (RRawN w b m) := by
  have hrd := dyn_read hL hD hO hpk
  have HR := Lib.hid hrd
  have hpo := psOf_ok hwb
  have HOK := Lib.hid hpo
  have HUSE := Lib.hid (dyn_use hL hD hpo.1)
  have HLC := Lib.hid hL.chk
  have HDC := Lib.hid hD.chk
  have hl1 := hrd.2.2.2.le
  have hlen := hpk.len
  have hS : 74 + (rowBits O (L ++ D)).length + (bodyBits L D (psOf b)).length = (dynS b L D O).length := by
    unfold dynS dynBits
    have hh : (headBits O).length = 57 := by unfold headBits; rw [head_len]; rfl
    simp only [List.length_append, hh, putV_length]
    omega
  rw [← hS] at hlen
  have hbig := HX.bigb
  have HXX := Lib.hid HX
  have HWF := Lib.hid hwf
  have hd0 : decide (most < 0) = false := decide_eq_false (by omega)
  clear HX hwf hwb hpk hrd hpo hL hD hO hS
  generalize hR : (rowBits O (L ++ D)).length = R at *
  generalize hQ : (bodyBits L D (psOf b)).length = Q at *
  have HRR := Lib.hid hR
  have HQQ := Lib.hid hQ
  have HLEN := Lib.hid hlen
  have HBB := Lib.hid HR.out.2.2.2
  clear hR hQ hlen
  go_enter Tryz.func11, Tryz.ntmps11
  go_upto_region 4 with (fail)
  have HK := Lib.hid (RS.start w A x.length c 0 none 0 0 most)
  generalize (World.alloc w _) = W at HK ⊢
  go_wp2_with fail
  go_loopw [8] (fun s7 wx => ∃ (f : Nat) (a1 : Int) (n1 c1 : Nat) (A1 : Option Addr), s7 = .int .i64 f ∧ RS w wx A x.length c a1 A1 n1 c1 most ∧ ((f = 0 ∧ a1 = 0 ∧ A1 = none ∧ n1 = 0 ∧ c1 = 0) ∨ (f = 1 ∧ a1 = 74 + (R : Int) + (Q : Int) ∧ n1 = b.length ∧ SI wx .u8 A1 b.length b))) (fun s7 _ => 1 - (intOf s7).toNat)
  case atStart => exact ⟨0, 0, 0, 0, none, rfl, HK.out, .inl ⟨rfl, rfl, rfl, rfl, rfl⟩⟩
  case round =>
    clear HK
    obtain ⟨f, a1, n1, c1, A1, rfl, hk, hcase⟩ := hrel
    have HK := Lib.hid hk
    obtain ⟨⟨a0, a1', a2, a3, a4, a5⟩, f0, f1, f2, f3, f4, f5⟩ := cells6 hk.st
    clear hk
    rcases hcase with ⟨rfl, rfl, rfl, rfl, rfl⟩ | ⟨rfl, rfl, rfl, hs⟩
    · have HCALL := Lib.hid (take_form (a := 0) (k := 1) (c := c) (Ao := none) (no := 0) (co := 0) (most := most) (a0 := 0) (kk := 1) (a1 := 1) (v := 1) wr (HXX.out.below HK.out.bel (Nat.le_refl _)) HWF.out (by omega) (by omega) rfl rfl rfl HR.out.1)
      go_wp2_with fail
      refine HCALL.out.mono ?_
      rintro e w1 ⟨rfl, hb1⟩
      have HK1 := Lib.hid (HK.out.below hb1)
      clear hb1 HK HCALL a0 a1' a2 a3 a4 a5 f0 f1 f2 f3 f4 f5
      obtain ⟨⟨a0, a1', a2, a3, a4, a5⟩, f0, f1, f2, f3, f4, f5⟩ := cells6 HK1.out.st
      go_upto_region 8 with (fail)
      obtain ⟨W2, hW2, hk2, -⟩ := HK1.out.store 1 none 0 0
      rw [← hW2]
      have HK2 := Lib.hid hk2
      clear hW2 hk2 HK1 a0 a1' a2 a3 a4 a5 f0 f1 f2 f3 f4 f5
      obtain ⟨⟨a0, a1', a2, a3, a4, a5⟩, f0, f1, f2, f3, f4, f5⟩ := cells6 HK2.out.st
      have HCALL := Lib.hid (take_form (a := 1) (k := 2) (c := c) (Ao := none) (no := 0) (co := 0) (most := most) (a0 := 1) (kk := 2) (a1 := 3) (v := 2) W2 (HXX.out.below HK2.out.bel (Nat.le_refl _)) HWF.out (by omega) (by omega) rfl rfl rfl HR.out.2.1)
      go_wp2_with fail
      refine HCALL.out.mono ?_
      rintro e w3 ⟨rfl, hb3⟩
      have HK3 := Lib.hid (HK2.out.below hb3)
      clear hb3 HK2 HCALL a0 a1' a2 a3 a4 a5 f0 f1 f2 f3 f4 f5
      obtain ⟨⟨a0, a1', a2, a3, a4, a5⟩, f0, f1, f2, f3, f4, f5⟩ := cells6 HK3.out.st
      go_upto_region 10 with (fail)
      obtain ⟨W4, hW4, hk4, -⟩ := HK3.out.store 3 none 0 0
      rw [← hW4]
      have HK4 := Lib.hid hk4
      clear hW4 hk4 HK3 a0 a1' a2 a3 a4 a5 f0 f1 f2 f3 f4 f5
      obtain ⟨⟨a0, a1', a2, a3, a4, a5⟩, f0, f1, f2, f3, f4, f5⟩ := cells6 HK4.out.st
      have HCALL : Hid (Calls Tryz.prog 31 #[.agg #[.slice A x.length c, .bool false, .int .i64 3, .slice none 0 0, .int .i64 most, .int .i64 0]] W4 (TablesP W4 A x.length c (74 + (R : Int)) most L D)) := by
        show Calls _ _ _ _ _
        have h := rtables_any (a := 3) (c := c) (most := most) W4 (HXX.out.below HK4.out.bel (Nat.le_refl _)) HWF.out HR.out.2.2.1
        rw [HRR.out, show ((3 : Nat) : Int) + 71 + (R : Int) = 74 + (R : Int) from by omega] at h
        exact h
      go_wp2_with fail
      refine HCALL.out.mono ?_
      rintro e w7 ⟨Af, cf, Ad, cd, rfl, hsl, hsd, hb7, hlf, hld⟩
      have hz4 := HK4.out.lt
      have HK7 := Lib.hid (HK4.out.below hb7)
      have HSL := Lib.hid hsl
      have HSD := Lib.hid hsd
      clear hb7 hsl hsd HK4 HCALL a0 a1' a2 a3 a4 a5 f0 f1 f2 f3 f4 f5
      obtain ⟨⟨a0, a1', a2, a3, a4, a5⟩, f0, f1, f2, f3, f4, f5⟩ := cells6 HK7.out.st
      go_upto_region 21 with (fail)
      obtain ⟨W8, hW8, hk8, hg8⟩ := HK7.out.store (74 + (R : Int)) none 0 0
      rw [← hW8]
      have HK8 := Lib.hid hk8
      have hsit : Sit w W8 w.heap.size x A c most (74 + R) L D Af Ad 286 30 := ⟨by rw [Int.natCast_add]; exact hk8.st, HXX.out.below hk8.bel (Nat.le_refl _), SI.grown HSL.out hg8 (fun b o s e => by have := hlf b o s e; omega), SI.grown HSD.out hg8 (fun b o s e => by have := hld b o s e; omega), hk8.bel⟩
      have HSIT := Lib.hid (hsit.below (Below.refl _ W8).drew)
      clear hsit hW8 hk8 hg8 hlf hld hz4 HK7 HSL HSD a0 a1' a2 a3 a4 a5 f0 f1 f2 f3 f4 f5
      obtain ⟨⟨a0, a1', a2, a3, a4, a5⟩, f0, f1, f2, f3, f4, f5⟩ := cells6 HK8.out.st
      go_upto_region 22 with (fail)
      clear HK8 a0 a1' a2 a3 a4 a5 f0 f1 f2 f3 f4 f5
      obtain ⟨⟨a0, a1', a2, a3, a4, a5⟩, f0, f1, f2, f3, f4, f5⟩ := cells6 HSIT.out.six
      rw [Int.natCast_add] at a2
      go_region_with (first
          | (go_at_call 30
             (with_reducible refine (tabled_any _ HSIT.out.l (by omega)).mono ?_)
             rintro e wx ⟨hbx, cL, rfl, hTL, -⟩
             have HSIT := Lib.hid (HSIT.out.below hbx)
             obtain ⟨⟨a0, a1', a2, a3, a4, a5⟩, f0, f1, f2, f3, f4, f5⟩ := cells6 HSIT.out.six
             rw [Int.natCast_add] at a2)
          | (go_at_call 30
             (with_reducible refine (tabled_any _ HSIT.out.d (by omega)).mono ?_)
             rintro e wx ⟨hbx, cD, rfl, hTD, -⟩
             have HSIT := Lib.hid (HSIT.out.below hbx)
             have hTL := hTL.below hbx (Nat.le_refl _)
             obtain ⟨⟨a0, a1', a2, a3, a4, a5⟩, f0, f1, f2, f3, f4, f5⟩ := cells6 HSIT.out.six
             rw [Int.natCast_add] at a2)
          | (go_at_call 29
             have HWL := Lib.hid HSIT.out.six.lt
             refine (symbols_sit2 (a0 := 74 + (R : Int)) HSIT.out (by push_cast; rfl) hTL hTD HWF.out HLC.out HDC.out HOK.out.1 HOK.out.2 HUSE.out HBB.out hm hmb).mono ?_
             rintro e wx ⟨A1, c1, rfl, hsx, hbx, hlx⟩
             have HSIT := Lib.hid (HSIT.out.below hbx)
             have HSX := Lib.hid hsx
             have HLX := Lib.hid hlx
             clear hbx hsx hlx
             obtain ⟨⟨a0, a1', a2, a3, a4, a5⟩, f0, f1, f2, f3, f4, f5⟩ := cells6 HSIT.out.six
             rw [Int.natCast_add] at a2))
      all_goals (
        obtain ⟨W9, hW9, hs9, hg9⟩ := HSIT.out.six.all (.slice A x.length c) (.bool false) (.int .i64 (74 + (R : Int) + (Q : Int))) (.slice A1 b.length c1) (.int .i64 most) (.int .i64 0)
        rw [HQQ.out]
        rw [← hW9]
        have HX9 := Lib.hid (SI.grown HSX.out hg9 (fun b off s e => by have := HLX.out b off s e; have := HWL.out; omega))
        have HK9 : Hid (RS w W9 A x.length c (74 + (R : Int) + (Q : Int)) A1 b.length c1 most) := ⟨HSIT.out.bel.grown hg9 HSIT.out.bel.size (fun b e => by injection e with e; omega), hs9⟩
        clear hW9 hs9 hg9 a0 a1' a2 a3 a4 a5 f0 f1 f2 f3 f4 f5
        go_wp2_with fail
        refine ⟨⟨1, 74 + (R : Int) + (Q : Int), b.length, c1, A1, rfl, HK9.out, .inr ⟨rfl, rfl, rfl, HX9.out⟩⟩, by simp [intOf]⟩)
    · have HS := Lib.hid hs
      clear hs
      have hlen := HLEN.out
      have e1 : IntKind.i64.wrap (74 + (R : Int) + (Q : Int) + 7) = 74 + (R : Int) + (Q : Int) + 7 := IntWalk.i64_in _ (by omega)
      have e2 : (74 + (R : Int) + (Q : Int) + 7).tdiv 8 = (m : Int) := by
        rw [Int.tdiv_eq_ediv_of_nonneg (by omega)]; omega
      have e3 : wrap64 (m : Int) = (m : Int) := IntWalk.wrap64_in _ (by omega)
      clear hlen
      go_wp2_with fail
      go_region
      go_wp2_with fail
      refine bodyPost_ret (v := .tuple #[.slice A1 b.length c1, .int .i64 (m : Int), .int .i64 0]) ?_ rfl ⟨A1, c1, rfl, HS.out.below ((Below.refl wr.heap.size wr).drew) (Nat.le_refl _), HK.out.bel.drew⟩
      simp [results, Tryz.results11, go_sem, e3]
theorem rraw_dyn {b x L D O : List Int} {A : Option Addr} {c : Nat} {most : Int} (w : World) (HX : SI w .u8 A x.length x) (hwf : ∀ y ∈ x, 0 ≤ y ∧ y < 256) (hwb : ∀ y ∈ b, 0 ≤ y ∧ y < 256)
    (hL : GoodC (litsL (psOf b)) 15 L) (hD : GoodC (distsL (psOf b)) 15 D) (hO : GoodC (rowL (L ++ D)) 7 O) (hpk : Pk x false (dynS b L D O)) (hm : (b.length : Int) ≤ most) (hmb : most ≤ 2000000) :
    Calls Tryz.prog 11 #[.slice A x.length c, .int .i64 most] w (RRawP w b x) := rraw_dyn_on w HX hwf hwb hL hD hO (On.self hpk) hm hmb
end Go.Proofs.YtmgbjgjlddifaaaGreat.Inf
