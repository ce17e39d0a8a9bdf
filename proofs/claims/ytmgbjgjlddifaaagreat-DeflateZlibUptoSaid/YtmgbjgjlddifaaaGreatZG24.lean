/-
  Walks: the reference's inflate: Raw on a fixed stream.
-/
import Derived.Test.YtmgbjgjlddifaaaGreatZG13
import Derived.Deep.RegionHeld3
import Derived.Test.YtmgbjgjlddifaaaGreatZG23
set_option linter.unusedVariables false
set_option linter.unusedSimpArgs false
namespace Go.Proofs.YtmgbjgjlddifaaaGreat.Inf
open Go.RowKit K Bits Pfx Def Wrt Bak Ref RefR RefT RefX

def RRawN (w : World) (b : List Int) (m : Nat) (e : Ending) (w' : World) : Prop :=
  ∃ A1 c1, e = .returned (.tuple #[.slice A1 b.length c1, .int .i64 (m : Int), .int .i64 0]) ∧ SI w' .u8 A1 b.length b ∧ Below w.heap.size w w'
def RRawP (w : World) (b x : List Int) : Ending → World → Prop := RRawN w b x.length
set_option maxRecDepth 20000 in
set_option maxHeartbeats 8000000 in
theorem rraw_fixed_on {b x : List Int} {m : Nat} {A : Option Addr} {c : Nat} {most : Int} (w : World) (HX : SI w .u8 A x.length x) (hwf : ∀ y ∈ x, 0 ≤ y ∧ y < 256) (hwb : ∀ y ∈ b, 0 ≤ y ∧ y < 256) (hpk : On x m (fixBits b)) (hm : (b.length : Int) ≤ most) (hmb : most ≤ 2000000) :
    Calls Tryz.prog 11 #[.slice A x.length c, .int .i64 most] w (RRawN w b m) := by
  have HXX := Lib.hid HX
  have HWF := Lib.hid hwf
  have hrd := fix_read hpk
  have HR := Lib.hid hrd
  have HPK := Lib.hid hpk
  have HOK := Lib.hid (psOf_ok hwb)
  have hl1 := hrd.2.2.le
  have hd0 : decide (most < 0) = false := decide_eq_false (by omega)
  clear HX hwf hwb hpk hrd
  go_enter Tryz.func11, Tryz.ntmps11
  go_upto_region 4 with (fail)
  have hst : Six (w.alloc (.cells #[.slice A x.length c, .bool false, .int .i64 0, .slice none 0 0, .int .i64 most, .int .i64 0] 58)) w.heap.size 58 (.slice A x.length c) (.bool false) (.int .i64 0) (.slice none 0 0) (.int .i64 most) (.int .i64 0) := heap_alloc_new _ _
  have HB0 : Hid (Below w.heap.size w (w.alloc (.cells #[.slice A x.length c, .bool false, .int .i64 0, .slice none 0 0, .int .i64 most, .int .i64 0] 58))) := (Below.refl _ _).alloc (Nat.le_refl _) _
  have HST := Lib.hid hst
  clear hst
  generalize hW : World.alloc w (.cells #[.slice A x.length c, .bool false, .int .i64 0, .slice none 0 0, .int .i64 most, .int .i64 0] 58) = W at HST HB0
  try rw [hW]
  clear hW
  go_wp2_with fail
  go_loopw [8] (fun s8 wx => ∃ (f a1 n1 c1 : Nat) (A1 : Option Addr), s8 = .int .i64 f ∧ Six wx w.heap.size 58 (.slice A x.length c) (.bool false) (.int .i64 (a1 : Int)) (.slice A1 n1 c1) (.int .i64 most) (.int .i64 0) ∧ Below w.heap.size w wx ∧
      ((f = 0 ∧ a1 = 0 ∧ A1 = none ∧ n1 = 0 ∧ c1 = 0) ∨ (f = 1 ∧ a1 = 3 + (bodyBits fixL fixD (psOf b)).length ∧ n1 = b.length ∧ SI wx .u8 A1 b.length b))) (fun s8 _ => 1 - (intOf s8).toNat)
  case atStart => exact ⟨0, 0, 0, 0, none, rfl, HST.out, HB0.out, .inl ⟨rfl, rfl, rfl, rfl, rfl⟩⟩
  case round =>
    clear HST HB0
    obtain ⟨f, a1, n1, c1, A1, rfl, hst, hbw, hcase⟩ := hrel
    have HST := Lib.hid hst
    have HBW := Lib.hid hbw
    obtain ⟨⟨a0, a1', a2, a3, a4, a5⟩, f0, f1, f2, f3, f4, f5⟩ := cells6 hst
    clear hst hbw
    rcases hcase with ⟨rfl, rfl, rfl, rfl, rfl⟩ | ⟨rfl, rfl, rfl, hs⟩
    · have b2 : wr.cell? ⟨w.heap.size, 2, none⟩ = some (.int .i64 0) := a2
      have hcall : Calls Tryz.prog 26 #[.agg (stV A x.length c 0 none 0 0 most 0), .int .i64 1] wr (TakeP wr A x c 0 1 none 0 0 most) := itake_any (a := 0) (k := 1) wr (HXX.out.below HBW.out (Nat.le_refl _)) HWF.out (by omega) (by omega)
      have HCALL := Lib.hid hcall
      have htk : takeV x false 0 1 = 1 := take_at HR.out.1 (by omega) (by decide)
      have HTK := Lib.hid htk
      clear a2 hcall htk
      unfold stV at HCALL
      go_upto_region 7 with (fail)
      go_wp2_with fail
      refine HCALL.out.mono ?_
      rintro e w3 ⟨he, hb3⟩
      rw [HTK.out] at he
      subst he
      have HS3 := Lib.hid (HST.out.block (hb3.block _ HST.out.lt))
      have HB3 := Lib.hid (HBW.out.trans (hb3.mono HBW.out.size))
      clear hb3 a0 a1' b2 a3 a4 a5 f0 f1 f2 f3 f4 f5 HCALL HTK
      obtain ⟨⟨a0, a1', a2, a3, a4, a5⟩, f0, f1, f2, f3, f4, f5⟩ := cells6 HS3.out
      unfold stV
      go_upto_region 8 with (fail)
      obtain ⟨W4, hW4, hs4, hg4⟩ := HS3.out.all (.slice A x.length c) (.bool false) (.int .i64 (((0 : Nat) : Int) + ((1 : Nat) : Int))) (.slice none 0 0) (.int .i64 most) (.int .i64 0)
      rw [show (((0 : Nat) : Int) + ((1 : Nat) : Int)) = 1 from rfl] at hW4 hs4
      try rw [show (((0 : Nat) : Int) + ((1 : Nat) : Int)) = 1 from rfl]
      rw [← hW4]
      have HS4 := Lib.hid hs4
      have HB4 := Lib.hid (HB3.out.grown hg4 HB3.out.size (fun b e => by injection e with e; omega))
      clear hW4 hs4 hg4 a0 a1' a2 a3 a4 a5 f0 f1 f2 f3 f4 f5 HS3 HB3
      obtain ⟨⟨a0, a1', a2, a3, a4, a5⟩, f0, f1, f2, f3, f4, f5⟩ := cells6 HS4.out
      have hcall : Calls Tryz.prog 26 #[.agg (stV A x.length c 1 none 0 0 most 0), .int .i64 2] W4 (TakeP W4 A x c 1 2 none 0 0 most) := itake_any (a := 1) (k := 2) W4 (HXX.out.below HB4.out (Nat.le_refl _)) HWF.out (by omega) (by omega)
      have HCALL := Lib.hid hcall
      have htk : takeV x false 1 2 = 1 := take_at HR.out.2.1 (by omega) (by decide)
      have HTK := Lib.hid htk
      clear hcall htk
      unfold stV at HCALL
      go_wp2_with fail
      refine HCALL.out.mono ?_
      rintro e w5 ⟨he, hb5⟩
      rw [HTK.out] at he
      subst he
      have HS5 := Lib.hid (HS4.out.block (hb5.block _ HS4.out.lt))
      have HB5 := Lib.hid (HB4.out.trans (hb5.mono HB4.out.size))
      clear hb5 a0 a1' a2 a3 a4 a5 f0 f1 f2 f3 f4 f5 HCALL HTK HS4 HB4
      obtain ⟨⟨a0, a1', a2, a3, a4, a5⟩, f0, f1, f2, f3, f4, f5⟩ := cells6 HS5.out
      unfold stV
      go_upto_region 10 with (fail)
      obtain ⟨W6, hW6, hs6, hg6⟩ := HS5.out.all (.slice A x.length c) (.bool false) (.int .i64 (((1 : Nat) : Int) + ((2 : Nat) : Int))) (.slice none 0 0) (.int .i64 most) (.int .i64 0)
      rw [show (((1 : Nat) : Int) + ((2 : Nat) : Int)) = 3 from rfl] at hW6 hs6
      try rw [show (((1 : Nat) : Int) + ((2 : Nat) : Int)) = 3 from rfl]
      try rw [← hW6]
      have HS6 := Lib.hid hs6
      have HB6 := Lib.hid (HB5.out.grown hg6 HB5.out.size (fun b e => by injection e with e; omega))
      clear hs6 hg6 a0 a1' a2 a3 a4 a5 f0 f1 f2 f3 f4 f5 HS5 HB5
      obtain ⟨⟨a0, a1', a2, a3, a4, a5⟩, f0, f1, f2, f3, f4, f5⟩ := cells6 HS6.out
      clear hW6
      go_wp2_with fail
      refine (rfixed_any W6).mono ?_
      rintro e w7 ⟨Af, cf, Ad, cd, rfl, hsl, hsd, hb7⟩
      have HS7 := Lib.hid (HS6.out.block (hb7.block _ HS6.out.lt))
      have HB7 := Lib.hid (HB6.out.trans (hb7.mono HB6.out.size))
      have HSL := Lib.hid hsl
      have HSD := Lib.hid hsd
      clear hb7 hsl hsd a0 a1' a2 a3 a4 a5 f0 f1 f2 f3 f4 f5 HS6 HB6
      obtain ⟨⟨a0, a1', a2, a3, a4, a5⟩, f0, f1, f2, f3, f4, f5⟩ := cells6 HS7.out
      go_upto_region 17 with (fail)
      have hsit : Sit w w7 w.heap.size x A c most 3 fixL fixD Af Ad 288 30 := ⟨HS7.out, HXX.out.below HB7.out (Nat.le_refl _), HSL.out, HSD.out, HB7.out⟩
      have HSIT := Lib.hid (hsit.below (Below.refl _ w7).drew)
      clear hsit a0 a1' a2 a3 a4 a5 f0 f1 f2 f3 f4 f5 HS7 HB7 HSL HSD
      obtain ⟨⟨a0, a1', a2, a3, a4, a5⟩, f0, f1, f2, f3, f4, f5⟩ := cells6 HSIT.out.six
      go_region_with (first
          | (go_at_call 30
             (with_reducible refine (tabled_any _ HSIT.out.l (by omega)).mono ?_)
             rintro e wx ⟨hbx, cL, rfl, hTL, -⟩
             have HSIT := Lib.hid (HSIT.out.below hbx)
             obtain ⟨⟨a0, a1', a2, a3, a4, a5⟩, f0, f1, f2, f3, f4, f5⟩ := cells6 HSIT.out.six)
          | (go_at_call 30
             (with_reducible refine (tabled_any _ HSIT.out.d (by omega)).mono ?_)
             rintro e wx ⟨hbx, cD, rfl, hTD, -⟩
             have HSIT := Lib.hid (HSIT.out.below hbx)
             have hTL := hTL.below hbx (Nat.le_refl _)
             obtain ⟨⟨a0, a1', a2, a3, a4, a5⟩, f0, f1, f2, f3, f4, f5⟩ := cells6 HSIT.out.six)
          | (go_at_call 29
             have HWL := Lib.hid HSIT.out.six.lt
             refine (symbols_sit HSIT.out hTL hTD HWF.out fixL_ok fixD_ok HOK.out.1 HOK.out.2 (fix_use HOK.out.1) HR.out.2.2 hm hmb).mono ?_
             rintro e wx ⟨A1, c1, rfl, hsx, hbx, hlx⟩
             have HSIT := Lib.hid (HSIT.out.below hbx)
             have HSX := Lib.hid hsx
             have HLX := Lib.hid hlx
             clear hbx hsx hlx
             obtain ⟨⟨a0, a1', a2, a3, a4, a5⟩, f0, f1, f2, f3, f4, f5⟩ := cells6 HSIT.out.six))
      all_goals (
        have hwl : w.heap.size < wx.heap.size := HSIT.out.six.lt
        obtain ⟨W9, hW9, hs9, hg9⟩ := HSIT.out.six.all (.slice A x.length c) (.bool false) (.int .i64 (3 + ((bodyBits fixL fixD (psOf b)).length : Int))) (.slice A1 b.length c1) (.int .i64 most) (.int .i64 0)
        rw [← hW9]
        have HS9 := Lib.hid hs9
        have HX9 := Lib.hid (SI.grown HSX.out hg9 (fun b off s e => by have := HLX.out b off s e; have := HWL.out; omega))
        have HB9 := Lib.hid (HSIT.out.bel.grown hg9 HSIT.out.bel.size (fun b e => by injection e with e; omega))
        clear hW9 hs9 hg9 a0 a1' a2 a3 a4 a5 f0 f1 f2 f3 f4 f5
        go_wp2_with fail
        refine ⟨⟨1, 3 + (bodyBits fixL fixD (psOf b)).length, b.length, c1, A1, rfl, by rw [Int.natCast_add]; exact HS9.out, HB9.out, .inr ⟨rfl, rfl, rfl, HX9.out⟩⟩, by simp [intOf]⟩)
    · have HS := Lib.hid hs
      clear hs
      generalize hS : 3 + (bodyBits fixL fixD (psOf b)).length = S at HST a2 hl1
      have e1 : IntKind.i64.wrap ((S : Int) + 7) = (S : Int) + 7 := IntWalk.i64_in _ (by have := HXX.out.bigb; omega)
      have e2 : ((S : Int) + 7).tdiv 8 = (m : Int) := by
        have hk := HPK.out.len
        unfold fixBits at hk
        rw [List.length_append, putV_length, hS] at hk
        rw [Int.tdiv_eq_ediv_of_nonneg (by omega)]
        omega
      have e3 : wrap64 (m : Int) = (m : Int) := IntWalk.wrap64_in _ (by
        have hk := HPK.out.len
        unfold fixBits at hk
        rw [List.length_append, putV_length, hS] at hk
        have := HXX.out.bigb; omega)
      go_wp2_with fail
      go_region
      go_wp2_with fail
      refine bodyPost_ret (v := .tuple #[.slice A1 b.length c1, .int .i64 (m : Int), .int .i64 0]) ?_ rfl ⟨A1, c1, rfl, HS.out.below ((Below.refl wr.heap.size wr).drew) (Nat.le_refl _), HBW.out.drew⟩
      simp [results, Tryz.results11, go_sem, e3]
theorem rraw_fixed {b x : List Int} {A : Option Addr} {c : Nat} {most : Int} (w : World) (HX : SI w .u8 A x.length x) (hwf : ∀ y ∈ x, 0 ≤ y ∧ y < 256) (hwb : ∀ y ∈ b, 0 ≤ y ∧ y < 256) (hpk : Pk x false (fixBits b)) (hm : (b.length : Int) ≤ most) (hmb : most ≤ 2000000) :
    Calls Tryz.prog 11 #[.slice A x.length c, .int .i64 most] w (RRawP w b x) := rraw_fixed_on w HX hwf hwb (On.self hpk) hm hmb
end Go.Proofs.YtmgbjgjlddifaaaGreat.Inf
