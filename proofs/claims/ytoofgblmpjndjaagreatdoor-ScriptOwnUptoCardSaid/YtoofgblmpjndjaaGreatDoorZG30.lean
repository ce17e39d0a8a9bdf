/-
  Walks: the reference's Parse. (Printed by gen_rparse.py.)
-/
import Derived.Test.YtoofgblmpjndjaaGreatDoorZG29
import Derived.Test.YtoofgblmpjndjaaGreatDoorZG28
set_option linter.unusedVariables false
set_option linter.unusedSimpArgs false
namespace Go.Proofs.YtoofgblmpjndjaaGreatDoor.Scr
open Go.RowKit K Go.Lib Go.Shelf

set_option maxRecDepth 20000 in
set_option maxHeartbeats 32000000 in
theorem rparse_any {t : Tx} (w : World) : Calls Tryz.prog 10 #[.string (ba t)] w (ParseP w (parseM t)) := by
 obtain ⟨res, hres⟩ : ∃ r, parseM t = r := ⟨_, rfl⟩
 rw [hres]
 by_cases hlen : 8192 < t.length
 ·have HE : Hid (res = .err 0 3) := by show _ = _; rw [← hres]; unfold parseM; rw [if_pos hlen]
  obtain ⟨zt, hzt⟩ : ∃ z, ba t = z := ⟨_, rfl⟩
  have hz : 8192 < zt.size := by rw [← hzt, ba_size]; exact hlen
  rw [hzt]
  have d0 : decide ((8192 : Int) < (zt.size : Int)) = true := decide_eq_true (by omega)
  have d1 : decide (8192 < zt.size) = true := decide_eq_true hz
  clear hres hlen hzt hz
  go_enter Tryz.func10, Tryz.ntmps10
  go_wp2_with fail
  refine bodyPost_ret (results_three rfl _ _ _) rfl ?_
  refine ⟨Below.refl _ _, ?_⟩
  rw [HE.out]
  rfl
 have HRES : Hid (linesP (restL t 0) ((0 : Nat) : Int) [] [] = res) := by show _ = _; rw [← hres, rest_all]; unfold parseM; rw [if_neg hlen]; rfl
 obtain ⟨zt, hzt⟩ : ∃ z, ba t = z := ⟨_, rfl⟩
 have HZT : Hid (zt.data.toList = t) := by show _ = _; rw [← hzt]; rfl
 obtain ⟨n, hn⟩ : ∃ n, zt.size = n := ⟨_, rfl⟩
 have HTN : Hid (t.length = n) := by show _ = _; rw [← hn, ← hzt]; rfl
 have HN : Hid (n ≤ 8192) := by show _ ≤ _; have := HTN.out; omega
 have HZN := Lib.hid hn
 have z0 : decide ((8192 : Int) < (n : Int)) = false := decide_eq_false (by have := HN.out; omega)
 have z1 : decide (8192 < n) = false := decide_eq_false (by have := HN.out; omega)
 rw [hzt]
 clear hres hlen hzt
 go_enter Tryz.func10, Tryz.ntmps10
 go_wp2_with fail
 clear z0 z1
 go_loopw [5, 6, 7, 8, 9] (fun s5 s6 s7 s8 s9 wr => ∃ (i f k m ln : Nat) (A A6 : Option Addr) (c c6 : Nat) (R : List SRow) (kn known : List Tx), i ≤ n + 1 ∧ s5 = .slice A k c ∧ s6 = .slice A6 m c6 ∧ s7 = .int .i64 (ln : Int) ∧ s8 = .int .i64 (f : Int) ∧ s9 = .int .i64 (i : Int) ∧ Hid (RPQ w wr (.slice A k c) k R (.slice A6 m c6) m kn) ∧ Hid (linesP (restL t f) (ln : Int) (R.map SRow.p) known = res) ∧ Hid (k ≤ 64 ∧ m ≤ k ∧ f ≤ i ∧ ln ≤ f ∧ (i = n + 1 → f = n + 1) ∧ ∀ j, f ≤ j → j < i → t.getD j 0 ≠ 10) ∧ Hid (∀ x : Tx, x ≠ [] → kn.contains x = known.contains x)) (fun _ _ _ _ s9 _ => n + 1 - (intOf s9).toNat)
 case atStart => exact ⟨0, 0, 0, 0, 0, none, none, 0, 0, [], [], [], Nat.zero_le _, rfl, rfl, rfl, rfl, rfl, RPQ.start w, HRES, ⟨by omega, by omega, by omega, by omega, fun h => by omega, fun j h1 h2 => by omega⟩, fun x _ => rfl⟩
 case round =>
  obtain ⟨i, f, k, m, ln, A, A6, c, c6, R, kn, known, hi, rfl, rfl, rfl, rfl, rfl, HQ, HREM, HFS, HKK⟩ := hrel
  clear HRES
  by_cases hlt : i ≤ n
  ·have HLT := Lib.hid hlt
   have d0 : decide ((i : Int) ≤ (n : Int)) = true := decide_eq_true (by omega)
   have e0 : decide (i ≤ n) = true := decide_eq_true hlt
   obtain ⟨i1, hi1⟩ : ∃ x : Nat, i + 1 = x := ⟨_, rfl⟩
   have u1 : wrap64 ((i : Int) + 1) = (i1 : Int) := wrap1 (by have := HN.out; omega) hi1
   have u2 : IntKind.i64.wrap ((i : Int) + 1) = (i1 : Int) := wrap2 (by have := HN.out; omega) hi1
   have HI1 : Hid (i1 = i + 1) := by show _ = _; omega
   obtain ⟨l1, hl1⟩ : ∃ x : Nat, ln + 1 = x := ⟨_, rfl⟩
   have u3 : wrap64 ((ln : Int) + 1) = (l1 : Int) := wrap1 (by have := HN.out; have := HFS.out; omega) hl1
   have u4 : IntKind.i64.wrap ((ln : Int) + 1) = (l1 : Int) := wrap2 (by have := HN.out; have := HFS.out; omega) hl1
   have HL1 : Hid (((ln : Int) + 1) = (l1 : Int)) := by show _ = _; omega
   have HL2 : Hid (l1 = ln + 1) := by show _ = _; omega
   have j0 : (f : Int) ≤ (i : Int) := by have := HFS.out; omega
   have j1 : (i : Int) ≤ (n : Int) := by omega
   have z0 : (0 : Int) ≤ (i : Int) := by omega
   clear hi1 hl1 hi
   by_cases hin : i < n
   ·have d1 : decide ((i : Int) < (n : Int)) = true := decide_eq_true (by omega)
    have e1 : decide (i < n) = true := decide_eq_true hin
    have l0 : (i : Int) < n := by omega
    have HIN := Lib.hid hin
    obtain ⟨ch, hc, hcl⟩ := byte_at (s := zt) (k := i) (by rw [HZN.out]; exact HIN.out)
    rw [HZT.out] at hcl
    have HGD : Hid (t.getD i 0 = ch) := by show _ = _; rw [List.getD_eq_getElem?_getD, hcl]; rfl
    clear hcl hlt hin
    by_cases h10 : ch = 10
    ·have q1 : ((ch.toNat : Nat) : Int) = 10 := by rw [h10]; rfl
     have p1 : (((ch.toNat : Nat) : Int) == 10) = true := by rw [q1]; rfl
     have r1 : (((ch.toNat : Nat) : Int) != 10) = false := by rw [q1]; rfl
     have HEND : Hid (i = t.length ∨ (i < t.length ∧ t.getD i 0 = 10)) := .inr ⟨by rw [HTN.out]; exact HIN.out, by rw [HGD.out, h10]⟩
     clear h10 q1 HGD
     have HRL : Hid (restL t f = ((t.drop f).take (i - f)) :: restL t i1) := by
      show _ = _
      rw [HI1.out]
      exact rest_line HFS.out.2.2.1 (by rw [HTN.out]; exact HLT.out) HFS.out.2.2.2.2.2 HEND.out
     obtain ⟨tl, htl⟩ : ∃ x, (t.drop f).take (i - f) = x := ⟨_, rfl⟩
     have htll : tl.length ≤ 8192 := by rw [← htl, List.length_take, List.length_drop]; have := HTN.out; have := HN.out; omega
     have hx0 : zt.extract f i = ba tl := by rw [← htl, ← HZT.out, ← ext_listB, ba_of]
     rw [htl] at HRL
     obtain ⟨zl, hzl⟩ : ∃ z, ba tl = z := ⟨_, rfl⟩
     have hx : zt.extract f i = zl := hx0.trans hzl
     have HREM2 : Hid (linesP (tl :: restL t i1) (ln : Int) (R.map SRow.p) known = res) := by show _ = _; rw [← HRL.out]; exact HREM.out
     obtain ⟨WD, hWD⟩ : ∃ x, wordsM tl = x := ⟨_, rfl⟩
     obtain ⟨nw, hnw⟩ : ∃ x, WD.length = x := ⟨_, rfl⟩
     have HWDM := Lib.hid hWD
     have HNW := Lib.hid hnw
     have HWN : Hid (nw ≤ 8192) := by show _ ≤ _; rw [← hnw, ← hWD]; have := words_len tl; omega
     have HWL : Hid (∀ x ∈ WD, x.length ≤ 8192) := fun x hx => by
      rw [← hWD] at hx
      have h1 := (fields_len tl []).2 x (List.Sublist.subset (List.takeWhile_sublist _) hx)
      simp at h1
      omega
     have HWD : Hid (Calls Tryz.prog 26 #[.string zl] wr fun e w' => Below wr.heap.size wr w' ∧ ∃ A c, e = .returned (.slice A nw c) ∧ w'.ownsRow wr.heap.size 9 1 (.slice A nw c) nw (WD.map vS)) := by
      have h := rwords_any zl wr (by rw [← hzl, ba_size]; omega)
      rw [show zl.data.toList = tl by rw [← hzl]; rfl, hWD] at h
      unfold RWordsP at h
      rw [hnw] at h
      exact h
     clear htl htll hx0 hzl hWD hnw HREM HRL HEND
     by_cases hw0 : WD = []
     ·have q0 : ((nw : Int) == 0) = true := by have h1 := HNW.out; rw [hw0] at h1; simp at h1; simp; omega
      have q2 : decide ((nw : Int) = 0) = true := by have h1 := HNW.out; rw [hw0] at h1; simp at h1; simp; omega
      have HREM3 : Hid (linesP (restL t i1) (l1 : Int) (R.map SRow.p) known = res) := by show _ = _; rw [← HREM2.out, linesP_blank (HWDM.out.trans hw0), HL1.out]
      clear hw0
      go_wp2_with (first | (go_at_call 26; refine HWD.out.mono ?_; rintro e V2 ⟨hb, A4, c4, rfl, hown⟩; (have HQ2 := Lib.hid (HQ.out.on hb)); clear hb hown HWD) | fail)
      go_roundw
      case rel => exact ⟨i1, i1, k, m, l1, A, A6, c, c6, R, kn, known, by have := HI1.out; have := HLT.out; omega, rfl, rfl, rfl, rfl, rfl, HQ2, HREM3, ⟨HFS.out.1, HFS.out.2.1, by omega, by have := HFS.out; have := HI1.out; have := HL2.out; omega, fun h => h, fun j h1 h2 => by omega⟩, HKK⟩
      case measure => show n + 1 - (i1 : Int).toNat < n + 1 - (i : Int).toNat; have := HI1.out; have := HLT.out; simp only [Int.toNat_natCast]; omega
     have hn1 : 1 ≤ nw := by rw [← HNW.out]; exact List.length_pos_iff.2 hw0
     have q0 : ((nw : Int) == 0) = false := by simp; omega
     have q2 : decide ((nw : Int) = 0) = false := decide_eq_false (by omega)
     have HW0 : Hid (wordsM tl ≠ []) := fun h => hw0 (HWDM.out.symm.trans h)
     clear hw0
     cases hst : stepM WD with
     | none =>
      have HE : Hid (res = .err (l1 : Int) 7) := by show _ = _; rw [← HREM2.out, ← HL1.out]; exact linesP_bad HW0.out (by rw [HWDM.out]; exact hst)
      go_wp2_with (first | (go_at_call 26; refine HWD.out.mono ?_; rintro e V2 ⟨hb, A4, c4, rfl, hown⟩; (have HQ2 := Lib.hid (HQ.out.on hb)); (have HSTP := rstep_any V2 (SS.of_own hown (by have := HWN.out; omega)) hn1 (own_cap hown)); rw [hst] at HSTP; (have HSTP := Lib.hid HSTP); (have HSV : Hid (wr.heap.size ≤ V2.heap.size) := hb.size); (have HN1 := Lib.hid hn1); clear hb hown hst hn1 HWD) | (go_at_call 27; refine HSTP.out.mono ?_; rintro e V3 ⟨hb3, he⟩; (try (simp only at he)); obtain ⟨o1, o2, o3, o4, o5, o6, o7, o8, o9, he⟩ := he; (have HQ3 := Lib.hid (HQ2.out.on hb3)); obtain ⟨SC, hSC⟩ : ∃ x, stC 0 o1 o2 o3 o4 o5 o6 o7 o8 o9 = x := ⟨_, rfl⟩; rw [hSC] at he; subst he; (have HS6 : Hid (SC.size = 6) := (by rw [← hSC]; rfl)); (have HONE : Hid (SC.all (·.oneCell') = true) := (by rw [← hSC]; exact stC_one _ _ _ _ _ _ _ _ _ _)); clear hb3 hSC HSTP; obtain ⟨WA, hWA⟩ : ∃ x, V3.alloc (.cells #[.int .i64 0, .string ⟨#[]⟩, .string ⟨#[]⟩, .slice none 0 0, .string ⟨#[]⟩, .slice none 0 0] 37) = x := ⟨_, rfl⟩; (have HXA : Hid (WA.heap[V3.heap.size]? = some (.cells st0 37 (0, 0))) := (by rw [← hWA]; exact heap_alloc_new V3 _)); (have HBA : Hid (Below V3.heap.size V3 WA) := (by rw [← hWA]; exact (Below.refl _ _).alloc (Nat.le_refl _) _))) | (refine wpList_store_rowG rfl 37 (.tmp 11) (.tmp 48) rfl V3.heap.size SC rfl rfl 37 st0 HXA.out (by rw [HS6.out]; exact infoSt) (by rw [HS6.out]; rfl) HONE.out ?_; intro W4 hr4 hg4; (have HR4 := Lib.hid hr4); (have HB4 : Hid (Below V3.heap.size V3 W4) := HBA.out.grown hg4 HBA.out.size (fun q e => by injection e with e; omega)); clear hr4 hg4; (have HQ4 := Lib.hid (HQ3.out.on HB4.out))) | fail)
      try rw [Exit.noGoto_ret]
      refine bodyPost_ret (results_three rfl _ _ _) rfl ?_
      refine ⟨HQ4.out.bel, ?_⟩
      rw [HE.out]
      rfl
     | some s =>
      have HST := Lib.hid (HWDM.out ▸ hst : stepM (wordsM tl) = some s)
      have HNEM : Hid (∀ u ∈ s.srcs, u ≠ []) := (step_spell hst).2.2.2
      by_cases h64 : 64 ≤ k
      ·have q1 : decide ((k : Int) ≥ 64) = true := decide_eq_true (by omega)
       have q3 : decide ((64 : Int) ≤ (k : Int)) = true := decide_eq_true (by omega)
       have q4 : decide (64 ≤ k) = true := decide_eq_true h64
       have HE : Hid (res = .err (l1 : Int) 7) := by show _ = _; rw [← HREM2.out, ← HL1.out]; exact linesP_full HW0.out HST.out (by rw [List.length_map, HQ.out.out.2.1]; exact h64)
       clear h64
       go_wp2_with (first | (go_at_call 26; refine HWD.out.mono ?_; rintro e V2 ⟨hb, A4, c4, rfl, hown⟩; (have HQ2 := Lib.hid (HQ.out.on hb)); (have HSTP := rstep_any V2 (SS.of_own hown (by have := HWN.out; omega)) hn1 (own_cap hown)); rw [hst] at HSTP; (have HSTP := Lib.hid HSTP); (have HSV : Hid (wr.heap.size ≤ V2.heap.size) := hb.size); (have HN1 := Lib.hid hn1); clear hb hown hst hn1 HWD) | (go_at_call 27; refine HSTP.out.mono ?_; rintro e V3 ⟨hb3, he⟩; (try (simp only at he)); obtain ⟨As, ns, cs, A2, m2, c2, he, ho1, ho2⟩ := he; (have HQ3 := Lib.hid (HQ2.out.on hb3)); (have HO1 := Lib.hid ho1); (have HO2 := Lib.hid ho2); obtain ⟨SC, hSC⟩ : ∃ x, stC 0 (ba s.op) (ba s.dst) As ns cs (ba s.file) A2 m2 c2 = x := ⟨_, rfl⟩; rw [hSC] at he; subst he; (have HSC := Lib.hid hSC); (have HS6 : Hid (SC.size = 6) := (by rw [← hSC]; rfl)); (have HONE : Hid (SC.all (·.oneCell') = true) := (by rw [← hSC]; exact stC_one _ _ _ _ _ _ _ _ _ _)); (have HSV3 : Hid (wr.heap.size ≤ V3.heap.size) := (by show _ ≤ _; have := hb3.size; have := HSV.out; omega)); clear hb3 ho1 ho2 hSC HSTP; obtain ⟨WA, hWA⟩ : ∃ x, V3.alloc (.cells #[.int .i64 0, .string ⟨#[]⟩, .string ⟨#[]⟩, .slice none 0 0, .string ⟨#[]⟩, .slice none 0 0] 37) = x := ⟨_, rfl⟩; (have HXA : Hid (WA.heap[V3.heap.size]? = some (.cells st0 37 (0, 0))) := (by rw [← hWA]; exact heap_alloc_new V3 _)); (have HBA : Hid (Below V3.heap.size V3 WA) := (by rw [← hWA]; exact (Below.refl _ _).alloc (Nat.le_refl _) _))) | (refine wpList_store_rowG rfl 37 (.tmp 11) (.tmp 48) rfl V3.heap.size SC rfl rfl 37 st0 HXA.out (by rw [HS6.out]; exact infoSt) (by rw [HS6.out]; rfl) HONE.out ?_; intro W4 hr4 hg4; (have HR4 := Lib.hid hr4); (have HB4 : Hid (Below V3.heap.size V3 W4) := HBA.out.grown hg4 HBA.out.size (fun q e => by injection e with e; omega)); clear hr4 hg4; (have HQ4 := Lib.hid (HQ3.out.on HB4.out))) | fail)
       try rw [Exit.noGoto_ret]
       refine bodyPost_ret (results_three rfl _ _ _) rfl ?_
       refine ⟨HQ4.out.bel, ?_⟩
       rw [HE.out]
       rfl
      have q1 : decide ((k : Int) ≥ 64) = false := decide_eq_false (by omega)
      have q3 : decide ((64 : Int) ≤ (k : Int)) = false := decide_eq_false (by omega)
      have q4 : decide (64 ≤ k) = false := decide_eq_false h64
      have HK64 : Hid (¬ 64 ≤ (R.map SRow.p).length) := by show ¬ _; rw [List.length_map, HQ.out.out.2.1]; exact h64
      have HKL : Hid (k < 64) := by show _ < _; omega
      have HSRCN : Hid (s.srcs.length ≤ 8193) := by show _ ≤ _; have := stepM_srcs hst; have := HWN.out; have := HNW.out; omega
      have HALL : Hid (s.srcs.all kn.contains = s.srcs.all known.contains) := by
       show _ = _
       have h1 := HNEM.out
       have h2 := HKK.out
       generalize s.srcs = L at h1
       induction L with
       | nil => rfl
       | cons a r ih => rw [List.all_cons, List.all_cons, ih (fun u hu => h1 u (List.mem_cons_of_mem _ hu)), h2 a (h1 a List.mem_cons_self)]
      clear h64
      go_wp2_with (first | (go_at_call 26; refine HWD.out.mono ?_; rintro e V2 ⟨hb, A4, c4, rfl, hown⟩; (have HQ2 := Lib.hid (HQ.out.on hb)); (have HSTP := rstep_any V2 (SS.of_own hown (by have := HWN.out; omega)) hn1 (own_cap hown)); rw [hst] at HSTP; (have HSTP := Lib.hid HSTP); (have HSV : Hid (wr.heap.size ≤ V2.heap.size) := hb.size); (have HN1 := Lib.hid hn1); clear hb hown hst hn1 HWD) | (go_at_call 27; refine HSTP.out.mono ?_; rintro e V3 ⟨hb3, he⟩; (try (simp only at he)); obtain ⟨As, ns, cs, A2, m2, c2, he, ho1, ho2⟩ := he; (have HQ3 := Lib.hid (HQ2.out.on hb3)); (have HO1 := Lib.hid ho1); (have HO2 := Lib.hid ho2); obtain ⟨SC, hSC⟩ : ∃ x, stC 0 (ba s.op) (ba s.dst) As ns cs (ba s.file) A2 m2 c2 = x := ⟨_, rfl⟩; rw [hSC] at he; subst he; (have HSC := Lib.hid hSC); (have HS6 : Hid (SC.size = 6) := (by rw [← hSC]; rfl)); (have HONE : Hid (SC.all (·.oneCell') = true) := (by rw [← hSC]; exact stC_one _ _ _ _ _ _ _ _ _ _)); (have HSV3 : Hid (wr.heap.size ≤ V3.heap.size) := (by show _ ≤ _; have := hb3.size; have := HSV.out; omega)); clear hb3 ho1 ho2 hSC HSTP; obtain ⟨WA, hWA⟩ : ∃ x, V3.alloc (.cells #[.int .i64 0, .string ⟨#[]⟩, .string ⟨#[]⟩, .slice none 0 0, .string ⟨#[]⟩, .slice none 0 0] 37) = x := ⟨_, rfl⟩; (have HXA : Hid (WA.heap[V3.heap.size]? = some (.cells st0 37 (0, 0))) := (by rw [← hWA]; exact heap_alloc_new V3 _)); (have HBA : Hid (Below V3.heap.size V3 WA) := (by rw [← hWA]; exact (Below.refl _ _).alloc (Nat.le_refl _) _))) | (refine wpList_store_rowG rfl 37 (.tmp 11) (.tmp 48) rfl V3.heap.size SC rfl rfl 37 st0 HXA.out (by rw [HS6.out]; exact infoSt) (by rw [HS6.out]; rfl) HONE.out ?_; intro W4 hr4 hg4; (have HR4 := Lib.hid hr4); (have HB4 : Hid (Below V3.heap.size V3 W4) := HBA.out.grown hg4 HBA.out.size (fun q e => by injection e with e; omega)); clear hr4 hg4; (have HQ4 := Lib.hid (HQ3.out.on HB4.out)); (have hs3 : SC[3]? = some (.slice As ns cs) := (by rw [← HSC.out]; rfl)); (have x3 : W4.cell? ⟨V3.heap.size, 3, none⟩ = some (.slice As ns cs) := (Ard.row_cell HR4.out 3).trans hs3); clear hs3) | fail)
      have HNS : Hid (s.srcs.length = ns) := by show _ = _; have := HO1.out.1; simpa using this
      have HSS : Hid (SS W4 As ns s.srcs) := SS.of_own (own_below HO1.out HB4.out) (by have := HSRCN.out; have := HNS.out; omega)
      have HSK : Hid (SS W4 A6 m kn) := SS.of_own HQ4.out.kno (by have := HFS.out; omega)
      go_loopw [13] (fun s13 wx => ∃ j : Nat, j ≤ ns ∧ s13 = .int .i64 (j : Int) ∧ W4 = wx ∧ Hid ((s.srcs.take j).all kn.contains = true)) (fun s13 _ => ns - (intOf s13).toNat)
      case atStart => exact ⟨0, Nat.zero_le _, rfl, rfl, rfl⟩
      case round =>
       obtain ⟨j, hj, rfl, rfl, HAJ⟩ := hrel
       by_cases hjn : j < ns
       ·have HJN := Lib.hid hjn
        obtain ⟨sb, so, u, rfl, hcu, hu, -⟩ := HSS.out.cell hjn
        have HU := Lib.hid hu
        have hjb : j ≤ 1099511627776 := Nat.le_trans (Nat.le_trans (Nat.le_of_lt hjn) (HNS.out ▸ HSRCN.out)) (by decide)
        have g0 : decide ((j : Int) < (ns : Int)) = true := decide_eq_true (by omega)
        have g1 : decide (j < ns) = true := decide_eq_true hjn
        have g2 : (j : Int) < ns := by omega
        have g3 : (0 : Int) ≤ (j : Int) := by omega
        obtain ⟨k1, hk1⟩ : ∃ x : Nat, j + 1 = x := ⟨_, rfl⟩
        have g4 : wrap64 ((j : Int) + 1) = (k1 : Int) := wrap1 hjb hk1
        have g5 : IntKind.i64.wrap ((j : Int) + 1) = (k1 : Int) := wrap2 hjb hk1
        have HK1 := Lib.hid hk1
        obtain ⟨zu, hzu⟩ : ∃ z, ba u = z := ⟨_, rfl⟩
        obtain ⟨eu, heu⟩ : ∃ b, kn.contains u = b := ⟨_, rfl⟩
        have HEU := Lib.hid heu
        have HIN2 : Hid (Calls Tryz.prog 28 #[.string zu, .slice A6 m c6] W4 fun e w' => e = .returned (.bool eu) ∧ W4 = w') := by have h := in_any (c := c6) zu W4 HSK.out; rw [show zu.data.toList = u by rw [← hzu]; rfl, heu] at h; exact h
        rw [hzu] at hcu
        have HTK : Hid (s.srcs.take k1 = s.srcs.take j ++ [u]) := by show _ = _; rw [← hk1, List.take_add_one, hu]; rfl
        clear hj hjn hjb hu hk1 hzu heu
        cases eu
        ·have HE : Hid (res = .err (l1 : Int) 8) := by
          show _ = _
          rw [← HREM2.out, ← HL1.out]
          refine linesP_name HW0.out HST.out HK64.out ?_
          rw [← HALL.out, List.all_eq_false]
          exact ⟨u, List.mem_of_getElem? HU.out, by rw [HEU.out]; decide⟩
         go_wp2_with (first | (go_at_call 28; refine HIN2.out.mono ?_; rintro e w' ⟨rfl, rfl⟩) | fail)
         try rw [Exit.noGoto_ret]
         refine bodyPost_ret (results_three rfl _ _ _) rfl ?_
         refine ⟨HQ4.out.bel, ?_⟩
         rw [HE.out]
         rfl
        ·go_wp2_with (first | (go_at_call 28; refine HIN2.out.mono ?_; rintro e w' ⟨rfl, rfl⟩) | fail)
         go_roundw
         case rel => exact ⟨k1, by have := HK1.out; have := HJN.out; omega, rfl, by first | rfl | trivial, by show _ = _; rw [HTK.out, List.all_append, HAJ.out, List.all_cons, HEU.out]; rfl⟩
         case measure => show ns - (k1 : Int).toNat < ns - (j : Int).toNat; have := HK1.out; have := HJN.out; simp only [Int.toNat_natCast]; omega
       ·have hjs : j = ns := by omega
        have g0 : decide ((j : Int) < (ns : Int)) = false := decide_eq_false (by omega)
        have g1 : decide (j < ns) = false := decide_eq_false hjn
        have HAL : Hid (s.srcs.all known.contains = true) := by
         show _ = _
         have h := HAJ.out
         rw [List.take_of_length_le (by rw [HNS.out]; omega)] at h
         rw [← HALL.out]
         exact h
        have HMORE : Hid (linesP (restL t i1) (l1 : Int) (R.map SRow.p ++ [((l1 : Int), s)]) (s.dst :: known) = res) := by show _ = _; rw [← HREM2.out, ← HL1.out]; exact (linesP_more HW0.out HST.out HK64.out HAL.out).symm
        obtain ⟨zo, hzo⟩ : ∃ z, ba s.op = z := ⟨_, rfl⟩
        obtain ⟨zd, hzd⟩ : ∃ z, ba s.dst = z := ⟨_, rfl⟩
        obtain ⟨zf, hzf⟩ : ∃ z, ba s.file = z := ⟨_, rfl⟩
        have HZO := Lib.hid hzo
        have HZD := Lib.hid hzd
        have HZF := Lib.hid hzf
        have hr4 := HR4.out
        rw [← HSC.out] at hr4
        have y0 : W4.cell? ⟨V3.heap.size, 0, none⟩ = some (.int .i64 0) := Ard.row_cell hr4 0
        have y1 : W4.frozen? ⟨V3.heap.size, 0, none⟩ = false := Ard.row_frozen hr4 0
        obtain ⟨W6, hW6⟩ : ∃ x, W4.setCell ⟨V3.heap.size, 0, none⟩ (.int .i64 (l1 : Int)) = x := ⟨_, rfl⟩
        have HR6 : Hid (W6.heap[V3.heap.size]? = some (.cells #[.int .i64 (l1 : Int), .string zo, .string zd, .slice As ns cs, .string zf, .slice A2 m2 c2] 37 (0, 0))) := by show _ = _; rw [← hW6, ← hzo, ← hzd, ← hzf]; exact heap_setCell_same W4 V3.heap.size 0 _ _ _ hr4
        have hb6 : Below V3.heap.size V3 W6 := by rw [← hW6]; exact HB4.out.setCell (p := ⟨V3.heap.size, 0, none⟩) (Nat.le_refl _) _
        have HQ6 := Lib.hid (HQ3.out.on hb6)
        have HS36 : Hid (V3.heap.size ≤ W6.heap.size) := hb6.size
        have HROW : Hid (SRow.own W6 w.heap.size ⟨((l1 : Int), s), As, ns, cs, A2, m2, c2⟩) := ⟨own_lower (own_below HO1.out hb6) HQ2.out.bel.size, own_lower (own_below HO2.out hb6) HQ2.out.bel.size⟩
        have HAP : Hid ((Value.slice As ns cs).ownBlock = none ∨ (Value.slice As ns cs).ownBlock ≠ (Value.slice A6 m c6).ownBlock) := apart_of HO1.out HQ.out.kno HSV.out
        clear hj hjn hjs hzo hzd hzf hr4 hb6
        go_upto_region 24 with (first | (refine wpList_load_row rfl 37 (.tmp 11) rfl V3.heap.size rfl 37 #[.int .i64 (l1 : Int), .string zo, .string zd, .slice As ns cs, .string zf, .slice A2 m2 c2] (0, 0) _ HR6.out Tryz.underlying37 rfl infoSt ?_) | (at_builtin; (have HQ8 := Lib.hid (HQ6.out.on ((Below.refl _ _).alloc (Nat.le_refl _) (.cells #[.int .i64 (l1 : Int), .string zo, .string zd, .slice As ns cs, .string zf, .slice A2 m2 c2] 37)))); (have HOWN8 := Lib.hid (HROW.out.below ((Below.refl _ _).alloc (Nat.le_refl _) (.cells #[.int .i64 (l1 : Int), .string zo, .string zd, .slice As ns cs, .string zf, .slice A2 m2 c2] 37)))); refine Jp.wpList_push rfl (.tmp 76) (.tmp 78) _ rfl w.heap.size 37 6 104 (.agg st0) Tryz.underlying23 infoStep rfl (by omega) (.slice A k c) k _ rfl HQ8.out.out.1 W6.heap.size 1 1 [.int .i64 (l1 : Int), .string zo, .string zd, .slice As ns cs, .string zf, .slice A2 m2 c2] 37 rfl rfl (heap_alloc_new W6 _) (by simp [Value.oneCell']) (by omega) (by have := HKL.out; unfold maxLen; omega) (by have := HKL.out; omega) HQ8.out.bel.size _ rfl ?_; intro g cap W9 ho9 hg9 _ hlt9; (have HO9 := Lib.hid ho9); (have HG9 := Lib.hid hg9); clear ho9 hg9 hlt9) | fail)
        have HQ9 := Lib.hid (HQ8.out.app (r := ⟨((l1 : Int), s), As, ns, cs, A2, m2, c2⟩) HOWN8.out HAP.out (by show World.ownsRow _ _ _ _ _ _ (_ ++ [.int .i64 (l1 : Int), .string (ba s.op), .string (ba s.dst), .slice As ns cs, .string (ba s.file), .slice A2 m2 c2]); rw [HZO.out, HZD.out, HZF.out]; exact HO9.out) HG9.out)
        have hr9 : W9.heap[V3.heap.size]? = some (.cells #[.int .i64 (l1 : Int), .string zo, .string zd, .slice As ns cs, .string zf, .slice A2 m2 c2] 37 (0, 0)) := by
         refine (HG9.out.block _ (by have h := (Array.getElem?_eq_some_iff.1 HR6.out).1; simp; omega) ?_).trans ((Below.heap_alloc _ _ _ (Array.getElem?_eq_some_iff.1 HR6.out).1).trans HR6.out)
         intro e
         have h := (HQ.out.out.1.lt _ e.symm).2
         have := HSV3.out
         omega
        have y2 : W9.cell? ⟨V3.heap.size, 2, none⟩ = some (.string zd) := Ard.row_cell hr9 2
        obtain ⟨eD, hD⟩ : ∃ e, (!zd.toList.isEmpty) = e := ⟨_, rfl⟩
        have HD := Lib.hid hD
        clear hr9 y0 y1 x3
        cases eD
        ·have HDE : Hid (s.dst = []) := by
          show _ = _
          have h := HD.out
          rw [← HZD.out, tl_ba] at h
          cases hd : s.dst with
          | nil => rfl
          | cons a r => rw [hd] at h; simp at h
         have HKK2 : Hid (∀ x : Tx, x ≠ [] → kn.contains x = (s.dst :: known).contains x) := fun x hx => by rw [HKK.out x hx, List.contains_cons, HDE.out]; have : (x == []) = false := beq_eq_false_iff_ne.2 hx; rw [this, Bool.false_or]
         go_wp2_with fail
         go_roundw
         case rel => exact ⟨i1, i1, k + 1, m, l1, some ⟨g, 0, none⟩, A6, cap, c6, R ++ [⟨((l1 : Int), s), As, ns, cs, A2, m2, c2⟩], kn, s.dst :: known, by have := HI1.out; have := HLT.out; omega, rfl, rfl, rfl, rfl, rfl, HQ9, by show _ = _; rw [List.map_append]; exact HMORE.out, ⟨by have := HKL.out; omega, by have := HFS.out; omega, by omega, by have := HFS.out; have := HI1.out; have := HL2.out; omega, fun h => h, fun j h1 h2 => by omega⟩, HKK2⟩
         case measure => show n + 1 - (i1 : Int).toNat < n + 1 - (i : Int).toNat; have := HI1.out; have := HLT.out; simp only [Int.toNat_natCast]; omega
        ·have HKK2 : Hid (∀ x : Tx, x ≠ [] → (kn ++ [s.dst]).contains x = (s.dst :: known).contains x) := fun x hx => by rw [List.contains_cons, ← HKK.out x hx, List.contains_eq_mem, List.contains_eq_mem]; by_cases h1 : x = s.dst <;> by_cases h2 : x ∈ kn <;> simp [h1, h2]
         go_wp2_with (first | (at_builtin; (have HQ11 := Lib.hid (HQ9.out.on ((Below.refl _ _).alloc (Nat.le_refl _) (.cells #[.string zd] 9)))); refine Jp.wpList_push rfl (.tmp 83) (.tmp 86) _ rfl w.heap.size 9 1 16 (.string ⟨#[]⟩) Tryz.underlying34 infoStr rfl (by omega) (.slice A6 m c6) m (kn.map vS) rfl HQ11.out.kno W9.heap.size 1 1 [.string zd] 9 rfl rfl (heap_alloc_new W9 _) (by simp [Value.oneCell']) (by omega) (by have := HKL.out; have := HFS.out; unfold maxLen; omega) (by have := HKL.out; have := HFS.out; omega) HQ11.out.bel.size _ rfl ?_; intro g2 cap2 W12 ho12 hg12 hgo12 hlt12; (have HO12 := Lib.hid ho12); (have HG12 := Lib.hid hg12); (have HGO12 := Lib.hid hgo12); clear ho12 hg12 hgo12 hlt12) | fail)
         have HQ12 := Lib.hid (HQ11.out.learn (x := s.dst) (by rw [show vS s.dst = Value.string zd by rw [← HZD.out]; rfl]; exact HO12.out) HG12.out HGO12.out)
         go_roundw
         case rel => exact ⟨i1, i1, k + 1, m + 1, l1, some ⟨g, 0, none⟩, some ⟨g2, 0, none⟩, cap, cap2, R ++ [⟨((l1 : Int), s), As, ns, cs, A2, m2, c2⟩], kn ++ [s.dst], s.dst :: known, by have := HI1.out; have := HLT.out; omega, rfl, rfl, rfl, rfl, rfl, HQ12, by show _ = _; rw [List.map_append]; exact HMORE.out, ⟨by have := HKL.out; omega, by have := HFS.out; omega, by omega, by have := HFS.out; have := HI1.out; have := HL2.out; omega, fun h => h, fun j h1 h2 => by omega⟩, HKK2⟩
         case measure => show n + 1 - (i1 : Int).toNat < n + 1 - (i : Int).toNat; have := HI1.out; have := HLT.out; simp only [Int.toNat_natCast]; omega
    ·have p1 : (((ch.toNat : Nat) : Int) == 10) = false := beq_eq_false_iff_ne.2 (neq_nat (n := 10) (by decide) h10)
     have r1 : (((ch.toNat : Nat) : Int) != 10) = true := by simp; exact neq_nat (n := 10) (by decide) h10
     have HNO : Hid (∀ j, f ≤ j → j < i1 → t.getD j 0 ≠ 10) := fun j h1 h2 => by
      by_cases hj : j < i
      ·exact HFS.out.2.2.2.2.2 j h1 hj
      ·obtain rfl : j = i := by have := HI1.out; omega
       rw [HGD.out]; exact h10
     clear h10
     go_wp2_with fail
     go_roundw
     case rel => exact ⟨i1, f, k, m, ln, A, A6, c, c6, R, kn, known, by have := HI1.out; have := HIN.out; omega, rfl, rfl, rfl, rfl, rfl, HQ, HREM, ⟨HFS.out.1, HFS.out.2.1, by have := HFS.out; have := HI1.out; omega, HFS.out.2.2.2.1, fun h => by have := HI1.out; have := HIN.out; omega, HNO.out⟩, HKK⟩
     case measure => show n + 1 - (i1 : Int).toNat < n + 1 - (i : Int).toNat; have := HI1.out; have := HLT.out; simp only [Int.toNat_natCast]; omega
   ·have d1 : decide ((i : Int) < (n : Int)) = false := decide_eq_false (by omega)
    have e1 : decide (i < n) = false := decide_eq_false hin
    have HEND : Hid (i = t.length ∨ (i < t.length ∧ t.getD i 0 = 10)) := .inl (by rw [HTN.out]; omega)
    clear hlt hin
    have HRL : Hid (restL t f = ((t.drop f).take (i - f)) :: restL t i1) := by
     show _ = _
     rw [HI1.out]
     exact rest_line HFS.out.2.2.1 (by rw [HTN.out]; exact HLT.out) HFS.out.2.2.2.2.2 HEND.out
    obtain ⟨tl, htl⟩ : ∃ x, (t.drop f).take (i - f) = x := ⟨_, rfl⟩
    have htll : tl.length ≤ 8192 := by rw [← htl, List.length_take, List.length_drop]; have := HTN.out; have := HN.out; omega
    have hx0 : zt.extract f i = ba tl := by rw [← htl, ← HZT.out, ← ext_listB, ba_of]
    rw [htl] at HRL
    obtain ⟨zl, hzl⟩ : ∃ z, ba tl = z := ⟨_, rfl⟩
    have hx : zt.extract f i = zl := hx0.trans hzl
    have HREM2 : Hid (linesP (tl :: restL t i1) (ln : Int) (R.map SRow.p) known = res) := by show _ = _; rw [← HRL.out]; exact HREM.out
    obtain ⟨WD, hWD⟩ : ∃ x, wordsM tl = x := ⟨_, rfl⟩
    obtain ⟨nw, hnw⟩ : ∃ x, WD.length = x := ⟨_, rfl⟩
    have HWDM := Lib.hid hWD
    have HNW := Lib.hid hnw
    have HWN : Hid (nw ≤ 8192) := by show _ ≤ _; rw [← hnw, ← hWD]; have := words_len tl; omega
    have HWL : Hid (∀ x ∈ WD, x.length ≤ 8192) := fun x hx => by
     rw [← hWD] at hx
     have h1 := (fields_len tl []).2 x (List.Sublist.subset (List.takeWhile_sublist _) hx)
     simp at h1
     omega
    have HWD : Hid (Calls Tryz.prog 26 #[.string zl] wr fun e w' => Below wr.heap.size wr w' ∧ ∃ A c, e = .returned (.slice A nw c) ∧ w'.ownsRow wr.heap.size 9 1 (.slice A nw c) nw (WD.map vS)) := by
     have h := rwords_any zl wr (by rw [← hzl, ba_size]; omega)
     rw [show zl.data.toList = tl by rw [← hzl]; rfl, hWD] at h
     unfold RWordsP at h
     rw [hnw] at h
     exact h
    clear htl htll hx0 hzl hWD hnw HREM HRL HEND
    by_cases hw0 : WD = []
    ·have q0 : ((nw : Int) == 0) = true := by have h1 := HNW.out; rw [hw0] at h1; simp at h1; simp; omega
     have q2 : decide ((nw : Int) = 0) = true := by have h1 := HNW.out; rw [hw0] at h1; simp at h1; simp; omega
     have HREM3 : Hid (linesP (restL t i1) (l1 : Int) (R.map SRow.p) known = res) := by show _ = _; rw [← HREM2.out, linesP_blank (HWDM.out.trans hw0), HL1.out]
     clear hw0
     go_wp2_with (first | (go_at_call 26; refine HWD.out.mono ?_; rintro e V2 ⟨hb, A4, c4, rfl, hown⟩; (have HQ2 := Lib.hid (HQ.out.on hb)); clear hb hown HWD) | fail)
     go_roundw
     case rel => exact ⟨i1, i1, k, m, l1, A, A6, c, c6, R, kn, known, by have := HI1.out; have := HLT.out; omega, rfl, rfl, rfl, rfl, rfl, HQ2, HREM3, ⟨HFS.out.1, HFS.out.2.1, by omega, by have := HFS.out; have := HI1.out; have := HL2.out; omega, fun h => h, fun j h1 h2 => by omega⟩, HKK⟩
     case measure => show n + 1 - (i1 : Int).toNat < n + 1 - (i : Int).toNat; have := HI1.out; have := HLT.out; simp only [Int.toNat_natCast]; omega
    have hn1 : 1 ≤ nw := by rw [← HNW.out]; exact List.length_pos_iff.2 hw0
    have q0 : ((nw : Int) == 0) = false := by simp; omega
    have q2 : decide ((nw : Int) = 0) = false := decide_eq_false (by omega)
    have HW0 : Hid (wordsM tl ≠ []) := fun h => hw0 (HWDM.out.symm.trans h)
    clear hw0
    cases hst : stepM WD with
    | none =>
     have HE : Hid (res = .err (l1 : Int) 7) := by show _ = _; rw [← HREM2.out, ← HL1.out]; exact linesP_bad HW0.out (by rw [HWDM.out]; exact hst)
     go_wp2_with (first | (go_at_call 26; refine HWD.out.mono ?_; rintro e V2 ⟨hb, A4, c4, rfl, hown⟩; (have HQ2 := Lib.hid (HQ.out.on hb)); (have HSTP := rstep_any V2 (SS.of_own hown (by have := HWN.out; omega)) hn1 (own_cap hown)); rw [hst] at HSTP; (have HSTP := Lib.hid HSTP); (have HSV : Hid (wr.heap.size ≤ V2.heap.size) := hb.size); (have HN1 := Lib.hid hn1); clear hb hown hst hn1 HWD) | (go_at_call 27; refine HSTP.out.mono ?_; rintro e V3 ⟨hb3, he⟩; (try (simp only at he)); obtain ⟨o1, o2, o3, o4, o5, o6, o7, o8, o9, he⟩ := he; (have HQ3 := Lib.hid (HQ2.out.on hb3)); obtain ⟨SC, hSC⟩ : ∃ x, stC 0 o1 o2 o3 o4 o5 o6 o7 o8 o9 = x := ⟨_, rfl⟩; rw [hSC] at he; subst he; (have HS6 : Hid (SC.size = 6) := (by rw [← hSC]; rfl)); (have HONE : Hid (SC.all (·.oneCell') = true) := (by rw [← hSC]; exact stC_one _ _ _ _ _ _ _ _ _ _)); clear hb3 hSC HSTP; obtain ⟨WA, hWA⟩ : ∃ x, V3.alloc (.cells #[.int .i64 0, .string ⟨#[]⟩, .string ⟨#[]⟩, .slice none 0 0, .string ⟨#[]⟩, .slice none 0 0] 37) = x := ⟨_, rfl⟩; (have HXA : Hid (WA.heap[V3.heap.size]? = some (.cells st0 37 (0, 0))) := (by rw [← hWA]; exact heap_alloc_new V3 _)); (have HBA : Hid (Below V3.heap.size V3 WA) := (by rw [← hWA]; exact (Below.refl _ _).alloc (Nat.le_refl _) _))) | (refine wpList_store_rowG rfl 37 (.tmp 11) (.tmp 48) rfl V3.heap.size SC rfl rfl 37 st0 HXA.out (by rw [HS6.out]; exact infoSt) (by rw [HS6.out]; rfl) HONE.out ?_; intro W4 hr4 hg4; (have HR4 := Lib.hid hr4); (have HB4 : Hid (Below V3.heap.size V3 W4) := HBA.out.grown hg4 HBA.out.size (fun q e => by injection e with e; omega)); clear hr4 hg4; (have HQ4 := Lib.hid (HQ3.out.on HB4.out))) | fail)
     try rw [Exit.noGoto_ret]
     refine bodyPost_ret (results_three rfl _ _ _) rfl ?_
     refine ⟨HQ4.out.bel, ?_⟩
     rw [HE.out]
     rfl
    | some s =>
     have HST := Lib.hid (HWDM.out ▸ hst : stepM (wordsM tl) = some s)
     have HNEM : Hid (∀ u ∈ s.srcs, u ≠ []) := (step_spell hst).2.2.2
     by_cases h64 : 64 ≤ k
     ·have q1 : decide ((k : Int) ≥ 64) = true := decide_eq_true (by omega)
      have q3 : decide ((64 : Int) ≤ (k : Int)) = true := decide_eq_true (by omega)
      have q4 : decide (64 ≤ k) = true := decide_eq_true h64
      have HE : Hid (res = .err (l1 : Int) 7) := by show _ = _; rw [← HREM2.out, ← HL1.out]; exact linesP_full HW0.out HST.out (by rw [List.length_map, HQ.out.out.2.1]; exact h64)
      clear h64
      go_wp2_with (first | (go_at_call 26; refine HWD.out.mono ?_; rintro e V2 ⟨hb, A4, c4, rfl, hown⟩; (have HQ2 := Lib.hid (HQ.out.on hb)); (have HSTP := rstep_any V2 (SS.of_own hown (by have := HWN.out; omega)) hn1 (own_cap hown)); rw [hst] at HSTP; (have HSTP := Lib.hid HSTP); (have HSV : Hid (wr.heap.size ≤ V2.heap.size) := hb.size); (have HN1 := Lib.hid hn1); clear hb hown hst hn1 HWD) | (go_at_call 27; refine HSTP.out.mono ?_; rintro e V3 ⟨hb3, he⟩; (try (simp only at he)); obtain ⟨As, ns, cs, A2, m2, c2, he, ho1, ho2⟩ := he; (have HQ3 := Lib.hid (HQ2.out.on hb3)); (have HO1 := Lib.hid ho1); (have HO2 := Lib.hid ho2); obtain ⟨SC, hSC⟩ : ∃ x, stC 0 (ba s.op) (ba s.dst) As ns cs (ba s.file) A2 m2 c2 = x := ⟨_, rfl⟩; rw [hSC] at he; subst he; (have HSC := Lib.hid hSC); (have HS6 : Hid (SC.size = 6) := (by rw [← hSC]; rfl)); (have HONE : Hid (SC.all (·.oneCell') = true) := (by rw [← hSC]; exact stC_one _ _ _ _ _ _ _ _ _ _)); (have HSV3 : Hid (wr.heap.size ≤ V3.heap.size) := (by show _ ≤ _; have := hb3.size; have := HSV.out; omega)); clear hb3 ho1 ho2 hSC HSTP; obtain ⟨WA, hWA⟩ : ∃ x, V3.alloc (.cells #[.int .i64 0, .string ⟨#[]⟩, .string ⟨#[]⟩, .slice none 0 0, .string ⟨#[]⟩, .slice none 0 0] 37) = x := ⟨_, rfl⟩; (have HXA : Hid (WA.heap[V3.heap.size]? = some (.cells st0 37 (0, 0))) := (by rw [← hWA]; exact heap_alloc_new V3 _)); (have HBA : Hid (Below V3.heap.size V3 WA) := (by rw [← hWA]; exact (Below.refl _ _).alloc (Nat.le_refl _) _))) | (refine wpList_store_rowG rfl 37 (.tmp 11) (.tmp 48) rfl V3.heap.size SC rfl rfl 37 st0 HXA.out (by rw [HS6.out]; exact infoSt) (by rw [HS6.out]; rfl) HONE.out ?_; intro W4 hr4 hg4; (have HR4 := Lib.hid hr4); (have HB4 : Hid (Below V3.heap.size V3 W4) := HBA.out.grown hg4 HBA.out.size (fun q e => by injection e with e; omega)); clear hr4 hg4; (have HQ4 := Lib.hid (HQ3.out.on HB4.out))) | fail)
      try rw [Exit.noGoto_ret]
      refine bodyPost_ret (results_three rfl _ _ _) rfl ?_
      refine ⟨HQ4.out.bel, ?_⟩
      rw [HE.out]
      rfl
     have q1 : decide ((k : Int) ≥ 64) = false := decide_eq_false (by omega)
     have q3 : decide ((64 : Int) ≤ (k : Int)) = false := decide_eq_false (by omega)
     have q4 : decide (64 ≤ k) = false := decide_eq_false h64
     have HK64 : Hid (¬ 64 ≤ (R.map SRow.p).length) := by show ¬ _; rw [List.length_map, HQ.out.out.2.1]; exact h64
     have HKL : Hid (k < 64) := by show _ < _; omega
     have HSRCN : Hid (s.srcs.length ≤ 8193) := by show _ ≤ _; have := stepM_srcs hst; have := HWN.out; have := HNW.out; omega
     have HALL : Hid (s.srcs.all kn.contains = s.srcs.all known.contains) := by
      show _ = _
      have h1 := HNEM.out
      have h2 := HKK.out
      generalize s.srcs = L at h1
      induction L with
      | nil => rfl
      | cons a r ih => rw [List.all_cons, List.all_cons, ih (fun u hu => h1 u (List.mem_cons_of_mem _ hu)), h2 a (h1 a List.mem_cons_self)]
     clear h64
     go_wp2_with (first | (go_at_call 26; refine HWD.out.mono ?_; rintro e V2 ⟨hb, A4, c4, rfl, hown⟩; (have HQ2 := Lib.hid (HQ.out.on hb)); (have HSTP := rstep_any V2 (SS.of_own hown (by have := HWN.out; omega)) hn1 (own_cap hown)); rw [hst] at HSTP; (have HSTP := Lib.hid HSTP); (have HSV : Hid (wr.heap.size ≤ V2.heap.size) := hb.size); (have HN1 := Lib.hid hn1); clear hb hown hst hn1 HWD) | (go_at_call 27; refine HSTP.out.mono ?_; rintro e V3 ⟨hb3, he⟩; (try (simp only at he)); obtain ⟨As, ns, cs, A2, m2, c2, he, ho1, ho2⟩ := he; (have HQ3 := Lib.hid (HQ2.out.on hb3)); (have HO1 := Lib.hid ho1); (have HO2 := Lib.hid ho2); obtain ⟨SC, hSC⟩ : ∃ x, stC 0 (ba s.op) (ba s.dst) As ns cs (ba s.file) A2 m2 c2 = x := ⟨_, rfl⟩; rw [hSC] at he; subst he; (have HSC := Lib.hid hSC); (have HS6 : Hid (SC.size = 6) := (by rw [← hSC]; rfl)); (have HONE : Hid (SC.all (·.oneCell') = true) := (by rw [← hSC]; exact stC_one _ _ _ _ _ _ _ _ _ _)); (have HSV3 : Hid (wr.heap.size ≤ V3.heap.size) := (by show _ ≤ _; have := hb3.size; have := HSV.out; omega)); clear hb3 ho1 ho2 hSC HSTP; obtain ⟨WA, hWA⟩ : ∃ x, V3.alloc (.cells #[.int .i64 0, .string ⟨#[]⟩, .string ⟨#[]⟩, .slice none 0 0, .string ⟨#[]⟩, .slice none 0 0] 37) = x := ⟨_, rfl⟩; (have HXA : Hid (WA.heap[V3.heap.size]? = some (.cells st0 37 (0, 0))) := (by rw [← hWA]; exact heap_alloc_new V3 _)); (have HBA : Hid (Below V3.heap.size V3 WA) := (by rw [← hWA]; exact (Below.refl _ _).alloc (Nat.le_refl _) _))) | (refine wpList_store_rowG rfl 37 (.tmp 11) (.tmp 48) rfl V3.heap.size SC rfl rfl 37 st0 HXA.out (by rw [HS6.out]; exact infoSt) (by rw [HS6.out]; rfl) HONE.out ?_; intro W4 hr4 hg4; (have HR4 := Lib.hid hr4); (have HB4 : Hid (Below V3.heap.size V3 W4) := HBA.out.grown hg4 HBA.out.size (fun q e => by injection e with e; omega)); clear hr4 hg4; (have HQ4 := Lib.hid (HQ3.out.on HB4.out)); (have hs3 : SC[3]? = some (.slice As ns cs) := (by rw [← HSC.out]; rfl)); (have x3 : W4.cell? ⟨V3.heap.size, 3, none⟩ = some (.slice As ns cs) := (Ard.row_cell HR4.out 3).trans hs3); clear hs3) | fail)
     have HNS : Hid (s.srcs.length = ns) := by show _ = _; have := HO1.out.1; simpa using this
     have HSS : Hid (SS W4 As ns s.srcs) := SS.of_own (own_below HO1.out HB4.out) (by have := HSRCN.out; have := HNS.out; omega)
     have HSK : Hid (SS W4 A6 m kn) := SS.of_own HQ4.out.kno (by have := HFS.out; omega)
     go_loopw [13] (fun s13 wx => ∃ j : Nat, j ≤ ns ∧ s13 = .int .i64 (j : Int) ∧ W4 = wx ∧ Hid ((s.srcs.take j).all kn.contains = true)) (fun s13 _ => ns - (intOf s13).toNat)
     case atStart => exact ⟨0, Nat.zero_le _, rfl, rfl, rfl⟩
     case round =>
      obtain ⟨j, hj, rfl, rfl, HAJ⟩ := hrel
      by_cases hjn : j < ns
      ·have HJN := Lib.hid hjn
       obtain ⟨sb, so, u, rfl, hcu, hu, -⟩ := HSS.out.cell hjn
       have HU := Lib.hid hu
       have hjb : j ≤ 1099511627776 := Nat.le_trans (Nat.le_trans (Nat.le_of_lt hjn) (HNS.out ▸ HSRCN.out)) (by decide)
       have g0 : decide ((j : Int) < (ns : Int)) = true := decide_eq_true (by omega)
       have g1 : decide (j < ns) = true := decide_eq_true hjn
       have g2 : (j : Int) < ns := by omega
       have g3 : (0 : Int) ≤ (j : Int) := by omega
       obtain ⟨k1, hk1⟩ : ∃ x : Nat, j + 1 = x := ⟨_, rfl⟩
       have g4 : wrap64 ((j : Int) + 1) = (k1 : Int) := wrap1 hjb hk1
       have g5 : IntKind.i64.wrap ((j : Int) + 1) = (k1 : Int) := wrap2 hjb hk1
       have HK1 := Lib.hid hk1
       obtain ⟨zu, hzu⟩ : ∃ z, ba u = z := ⟨_, rfl⟩
       obtain ⟨eu, heu⟩ : ∃ b, kn.contains u = b := ⟨_, rfl⟩
       have HEU := Lib.hid heu
       have HIN2 : Hid (Calls Tryz.prog 28 #[.string zu, .slice A6 m c6] W4 fun e w' => e = .returned (.bool eu) ∧ W4 = w') := by have h := in_any (c := c6) zu W4 HSK.out; rw [show zu.data.toList = u by rw [← hzu]; rfl, heu] at h; exact h
       rw [hzu] at hcu
       have HTK : Hid (s.srcs.take k1 = s.srcs.take j ++ [u]) := by show _ = _; rw [← hk1, List.take_add_one, hu]; rfl
       clear hj hjn hjb hu hk1 hzu heu
       cases eu
       ·have HE : Hid (res = .err (l1 : Int) 8) := by
         show _ = _
         rw [← HREM2.out, ← HL1.out]
         refine linesP_name HW0.out HST.out HK64.out ?_
         rw [← HALL.out, List.all_eq_false]
         exact ⟨u, List.mem_of_getElem? HU.out, by rw [HEU.out]; decide⟩
        go_wp2_with (first | (go_at_call 28; refine HIN2.out.mono ?_; rintro e w' ⟨rfl, rfl⟩) | fail)
        try rw [Exit.noGoto_ret]
        refine bodyPost_ret (results_three rfl _ _ _) rfl ?_
        refine ⟨HQ4.out.bel, ?_⟩
        rw [HE.out]
        rfl
       ·go_wp2_with (first | (go_at_call 28; refine HIN2.out.mono ?_; rintro e w' ⟨rfl, rfl⟩) | fail)
        go_roundw
        case rel => exact ⟨k1, by have := HK1.out; have := HJN.out; omega, rfl, by first | rfl | trivial, by show _ = _; rw [HTK.out, List.all_append, HAJ.out, List.all_cons, HEU.out]; rfl⟩
        case measure => show ns - (k1 : Int).toNat < ns - (j : Int).toNat; have := HK1.out; have := HJN.out; simp only [Int.toNat_natCast]; omega
      ·have hjs : j = ns := by omega
       have g0 : decide ((j : Int) < (ns : Int)) = false := decide_eq_false (by omega)
       have g1 : decide (j < ns) = false := decide_eq_false hjn
       have HAL : Hid (s.srcs.all known.contains = true) := by
        show _ = _
        have h := HAJ.out
        rw [List.take_of_length_le (by rw [HNS.out]; omega)] at h
        rw [← HALL.out]
        exact h
       have HMORE : Hid (linesP (restL t i1) (l1 : Int) (R.map SRow.p ++ [((l1 : Int), s)]) (s.dst :: known) = res) := by show _ = _; rw [← HREM2.out, ← HL1.out]; exact (linesP_more HW0.out HST.out HK64.out HAL.out).symm
       obtain ⟨zo, hzo⟩ : ∃ z, ba s.op = z := ⟨_, rfl⟩
       obtain ⟨zd, hzd⟩ : ∃ z, ba s.dst = z := ⟨_, rfl⟩
       obtain ⟨zf, hzf⟩ : ∃ z, ba s.file = z := ⟨_, rfl⟩
       have HZO := Lib.hid hzo
       have HZD := Lib.hid hzd
       have HZF := Lib.hid hzf
       have hr4 := HR4.out
       rw [← HSC.out] at hr4
       have y0 : W4.cell? ⟨V3.heap.size, 0, none⟩ = some (.int .i64 0) := Ard.row_cell hr4 0
       have y1 : W4.frozen? ⟨V3.heap.size, 0, none⟩ = false := Ard.row_frozen hr4 0
       obtain ⟨W6, hW6⟩ : ∃ x, W4.setCell ⟨V3.heap.size, 0, none⟩ (.int .i64 (l1 : Int)) = x := ⟨_, rfl⟩
       have HR6 : Hid (W6.heap[V3.heap.size]? = some (.cells #[.int .i64 (l1 : Int), .string zo, .string zd, .slice As ns cs, .string zf, .slice A2 m2 c2] 37 (0, 0))) := by show _ = _; rw [← hW6, ← hzo, ← hzd, ← hzf]; exact heap_setCell_same W4 V3.heap.size 0 _ _ _ hr4
       have hb6 : Below V3.heap.size V3 W6 := by rw [← hW6]; exact HB4.out.setCell (p := ⟨V3.heap.size, 0, none⟩) (Nat.le_refl _) _
       have HQ6 := Lib.hid (HQ3.out.on hb6)
       have HS36 : Hid (V3.heap.size ≤ W6.heap.size) := hb6.size
       have HROW : Hid (SRow.own W6 w.heap.size ⟨((l1 : Int), s), As, ns, cs, A2, m2, c2⟩) := ⟨own_lower (own_below HO1.out hb6) HQ2.out.bel.size, own_lower (own_below HO2.out hb6) HQ2.out.bel.size⟩
       have HAP : Hid ((Value.slice As ns cs).ownBlock = none ∨ (Value.slice As ns cs).ownBlock ≠ (Value.slice A6 m c6).ownBlock) := apart_of HO1.out HQ.out.kno HSV.out
       clear hj hjn hjs hzo hzd hzf hr4 hb6
       go_upto_region 24 with (first | (refine wpList_load_row rfl 37 (.tmp 11) rfl V3.heap.size rfl 37 #[.int .i64 (l1 : Int), .string zo, .string zd, .slice As ns cs, .string zf, .slice A2 m2 c2] (0, 0) _ HR6.out Tryz.underlying37 rfl infoSt ?_) | (at_builtin; (have HQ8 := Lib.hid (HQ6.out.on ((Below.refl _ _).alloc (Nat.le_refl _) (.cells #[.int .i64 (l1 : Int), .string zo, .string zd, .slice As ns cs, .string zf, .slice A2 m2 c2] 37)))); (have HOWN8 := Lib.hid (HROW.out.below ((Below.refl _ _).alloc (Nat.le_refl _) (.cells #[.int .i64 (l1 : Int), .string zo, .string zd, .slice As ns cs, .string zf, .slice A2 m2 c2] 37)))); refine Jp.wpList_push rfl (.tmp 76) (.tmp 78) _ rfl w.heap.size 37 6 104 (.agg st0) Tryz.underlying23 infoStep rfl (by omega) (.slice A k c) k _ rfl HQ8.out.out.1 W6.heap.size 1 1 [.int .i64 (l1 : Int), .string zo, .string zd, .slice As ns cs, .string zf, .slice A2 m2 c2] 37 rfl rfl (heap_alloc_new W6 _) (by simp [Value.oneCell']) (by omega) (by have := HKL.out; unfold maxLen; omega) (by have := HKL.out; omega) HQ8.out.bel.size _ rfl ?_; intro g cap W9 ho9 hg9 _ hlt9; (have HO9 := Lib.hid ho9); (have HG9 := Lib.hid hg9); clear ho9 hg9 hlt9) | fail)
       have HQ9 := Lib.hid (HQ8.out.app (r := ⟨((l1 : Int), s), As, ns, cs, A2, m2, c2⟩) HOWN8.out HAP.out (by show World.ownsRow _ _ _ _ _ _ (_ ++ [.int .i64 (l1 : Int), .string (ba s.op), .string (ba s.dst), .slice As ns cs, .string (ba s.file), .slice A2 m2 c2]); rw [HZO.out, HZD.out, HZF.out]; exact HO9.out) HG9.out)
       have hr9 : W9.heap[V3.heap.size]? = some (.cells #[.int .i64 (l1 : Int), .string zo, .string zd, .slice As ns cs, .string zf, .slice A2 m2 c2] 37 (0, 0)) := by
        refine (HG9.out.block _ (by have h := (Array.getElem?_eq_some_iff.1 HR6.out).1; simp; omega) ?_).trans ((Below.heap_alloc _ _ _ (Array.getElem?_eq_some_iff.1 HR6.out).1).trans HR6.out)
        intro e
        have h := (HQ.out.out.1.lt _ e.symm).2
        have := HSV3.out
        omega
       have y2 : W9.cell? ⟨V3.heap.size, 2, none⟩ = some (.string zd) := Ard.row_cell hr9 2
       obtain ⟨eD, hD⟩ : ∃ e, (!zd.toList.isEmpty) = e := ⟨_, rfl⟩
       have HD := Lib.hid hD
       clear hr9 y0 y1 x3
       cases eD
       ·have HDE : Hid (s.dst = []) := by
         show _ = _
         have h := HD.out
         rw [← HZD.out, tl_ba] at h
         cases hd : s.dst with
         | nil => rfl
         | cons a r => rw [hd] at h; simp at h
        have HKK2 : Hid (∀ x : Tx, x ≠ [] → kn.contains x = (s.dst :: known).contains x) := fun x hx => by rw [HKK.out x hx, List.contains_cons, HDE.out]; have : (x == []) = false := beq_eq_false_iff_ne.2 hx; rw [this, Bool.false_or]
        go_wp2_with fail
        go_roundw
        case rel => exact ⟨i1, i1, k + 1, m, l1, some ⟨g, 0, none⟩, A6, cap, c6, R ++ [⟨((l1 : Int), s), As, ns, cs, A2, m2, c2⟩], kn, s.dst :: known, by have := HI1.out; have := HLT.out; omega, rfl, rfl, rfl, rfl, rfl, HQ9, by show _ = _; rw [List.map_append]; exact HMORE.out, ⟨by have := HKL.out; omega, by have := HFS.out; omega, by omega, by have := HFS.out; have := HI1.out; have := HL2.out; omega, fun h => h, fun j h1 h2 => by omega⟩, HKK2⟩
        case measure => show n + 1 - (i1 : Int).toNat < n + 1 - (i : Int).toNat; have := HI1.out; have := HLT.out; simp only [Int.toNat_natCast]; omega
       ·have HKK2 : Hid (∀ x : Tx, x ≠ [] → (kn ++ [s.dst]).contains x = (s.dst :: known).contains x) := fun x hx => by rw [List.contains_cons, ← HKK.out x hx, List.contains_eq_mem, List.contains_eq_mem]; by_cases h1 : x = s.dst <;> by_cases h2 : x ∈ kn <;> simp [h1, h2]
        go_wp2_with (first | (at_builtin; (have HQ11 := Lib.hid (HQ9.out.on ((Below.refl _ _).alloc (Nat.le_refl _) (.cells #[.string zd] 9)))); refine Jp.wpList_push rfl (.tmp 83) (.tmp 86) _ rfl w.heap.size 9 1 16 (.string ⟨#[]⟩) Tryz.underlying34 infoStr rfl (by omega) (.slice A6 m c6) m (kn.map vS) rfl HQ11.out.kno W9.heap.size 1 1 [.string zd] 9 rfl rfl (heap_alloc_new W9 _) (by simp [Value.oneCell']) (by omega) (by have := HKL.out; have := HFS.out; unfold maxLen; omega) (by have := HKL.out; have := HFS.out; omega) HQ11.out.bel.size _ rfl ?_; intro g2 cap2 W12 ho12 hg12 hgo12 hlt12; (have HO12 := Lib.hid ho12); (have HG12 := Lib.hid hg12); (have HGO12 := Lib.hid hgo12); clear ho12 hg12 hgo12 hlt12) | fail)
        have HQ12 := Lib.hid (HQ11.out.learn (x := s.dst) (by rw [show vS s.dst = Value.string zd by rw [← HZD.out]; rfl]; exact HO12.out) HG12.out HGO12.out)
        go_roundw
        case rel => exact ⟨i1, i1, k + 1, m + 1, l1, some ⟨g, 0, none⟩, some ⟨g2, 0, none⟩, cap, cap2, R ++ [⟨((l1 : Int), s), As, ns, cs, A2, m2, c2⟩], kn ++ [s.dst], s.dst :: known, by have := HI1.out; have := HLT.out; omega, rfl, rfl, rfl, rfl, rfl, HQ12, by show _ = _; rw [List.map_append]; exact HMORE.out, ⟨by have := HKL.out; omega, by have := HFS.out; omega, by omega, by have := HFS.out; have := HI1.out; have := HL2.out; omega, fun h => h, fun j h1 h2 => by omega⟩, HKK2⟩
        case measure => show n + 1 - (i1 : Int).toNat < n + 1 - (i : Int).toNat; have := HI1.out; have := HLT.out; simp only [Int.toNat_natCast]; omega
  ·have hi2 : i = n + 1 := by omega
   have d0 : decide ((i : Int) ≤ (n : Int)) = false := decide_eq_false (by omega)
   have e0 : decide (i ≤ n) = false := decide_eq_false hlt
   have HE : Hid (res = .ok (R.map SRow.p)) := by
    show _ = _
    rw [← HREM.out, rest_end (by rw [HTN.out]; exact HFS.out.2.2.2.2.1 hi2)]
    rfl
   clear hi hlt hi2
   go_wp2_with fail
   refine bodyPost_ret (results_three rfl _ _ _) rfl ?_
   refine ⟨HQ.out.bel, ?_⟩
   rw [HE.out]
   exact ⟨A, k, c, R, rfl, HQ.out.out, rfl⟩
end Go.Proofs.YtoofgblmpjndjaaGreatDoor.Scr
