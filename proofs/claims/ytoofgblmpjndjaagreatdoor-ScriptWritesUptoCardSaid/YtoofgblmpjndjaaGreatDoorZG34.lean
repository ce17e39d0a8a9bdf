/-
  Walks: the reference's Write. (Printed by gen_rwrite.py.)
-/
import Derived.Test.YtoofgblmpjndjaaGreatDoorZG33
import Derived.Test.YtoofgblmpjndjaaGreatDoorZG28
import Derived.Deep.RegionHeld3
set_option linter.unusedVariables false
set_option linter.unusedSimpArgs false
namespace Go.Proofs.YtoofgblmpjndjaaGreatDoor.Scr
open Go.RowKit K Go.Lib Go.Shelf

set_option maxRecDepth 20000 in
set_option maxHeartbeats 32000000 in
theorem rwrite_any {A : Option Addr} {n c : Nat} {l : List (Int × St)} (w : World) (H : TS w A n l) (HV : Vars w) (hF : ∀ p ∈ l, FitW p.2) (hcap : n ≤ c) : Calls Tryz.prog 15 #[.slice A n c] w (WriteP w (writeM (l.map (·.2)))) := by
 obtain ⟨res, hres⟩ : ∃ r, writeM (l.map (·.2)) = r := ⟨_, rfl⟩
 rw [hres]
 have HLN := Lib.hid H.len
 by_cases h64 : 64 < n
 ·have HE : Hid (res = ([], 7)) := by show _ = _; rw [← hres, writeM_wrR, if_pos (by rw [List.length_map, HLN.out]; exact h64)]
  have d0 : decide ((n : Int) > 64) = true := decide_eq_true (by omega)
  have d1 : decide ((64 : Int) < (n : Int)) = true := decide_eq_true (by omega)
  have d2 : decide (64 < n) = true := decide_eq_true h64
  clear hres h64 H HV hF hcap
  go_enter Tryz.func15, Tryz.ntmps15
  go_wp2_with fail
  refine bodyPost_ret (results_tmp2 rfl _ _ _) rfl ?_
  exact ⟨by rw [HE.out]; rfl, Below.refl _ _⟩
 obtain ⟨ll, hll⟩ : ∃ x, l.map (·.2) = x := ⟨_, rfl⟩
 have HRES : Hid (wrR (writeP (ll.drop 0) [] []) = res) := by show _ = _; rw [← hres, hll, writeM_wrR, if_neg (by rw [← hll, List.length_map, HLN.out]; exact h64)]; rfl
 have HN64 : Hid (n ≤ 64) := by show _ ≤ _; omega
 have HT := Lib.hid H
 have HVV := Lib.hid HV
 have HF := Lib.hid hF
 have HCAP := Lib.hid hcap
 have HLL := Lib.hid hll
 have d0 : decide ((n : Int) > 64) = false := decide_eq_false (by omega)
 have d1 : decide ((64 : Int) < (n : Int)) = false := decide_eq_false (by omega)
 have d2 : decide (64 < n) = false := decide_eq_false h64
 clear hres h64 hll H HV hF hcap
 go_enter Tryz.func15, Tryz.ntmps15
 go_wp2_with fail
 clear d0 d1 d2
 go_loopw [4, 5, 6] (fun s4 s5 s6 wr => ∃ (i m : Nat) (A5 : Option Addr) (c5 : Nat) (kn known : List Tx) (out : Tx), i ≤ n ∧ s4 = .string (ba out) ∧ s5 = .slice A5 m c5 ∧ s6 = .int .i64 (i : Int) ∧ Hid (RPQ w wr (.slice none 0 0) 0 [] (.slice A5 m c5) m kn) ∧ Hid (wrR (writeP (ll.drop i) out known) = res) ∧ Hid (m ≤ i ∧ out.length ≤ i * 67108864) ∧ Hid (∀ x : Tx, x ≠ [] → kn.contains x = known.contains x)) (fun _ _ s6 _ => n - (intOf s6).toNat)
 case atStart => exact ⟨0, 0, none, 0, [], [], [], Nat.zero_le _, rfl, rfl, rfl, RPQ.start w, HRES, ⟨Nat.le_refl _, Nat.zero_le _⟩, fun x _ => rfl⟩
 case round =>
  obtain ⟨i, m, A5, c5, kn, known, out, hi, rfl, rfl, rfl, HQ, HREM, HMS, HKK⟩ := hrel
  clear HRES
  obtain ⟨zout, hzout⟩ : ∃ z, ba out = z := ⟨_, rfl⟩
  have HZOUT := Lib.hid hzout
  rw [hzout]
  by_cases hlt : i < n
  ·have HLT := Lib.hid hlt
   have d0 : decide ((i : Int) < (n : Int)) = true := decide_eq_true (by omega)
   have e0 : decide (i < n) = true := decide_eq_true hlt
   have l0 : (i : Int) < n := by omega
   have z0 : (0 : Int) ≤ (i : Int) := by omega
   obtain ⟨i1, hi1⟩ : ∃ x : Nat, i + 1 = x := ⟨_, rfl⟩
   have hib : i ≤ 1099511627776 := by have := HN64.out; omega
   have u1 : wrap64 ((i : Int) + 1) = (i1 : Int) := wrap1 hib hi1
   have u2 : IntKind.i64.wrap ((i : Int) + 1) = (i1 : Int) := wrap2 hib hi1
   have HI1 : Hid (i1 = i + 1) := hi1.symm
   obtain ⟨p, hp⟩ : ∃ p, l[i]? = some p := ⟨l[i]'(by rw [HLN.out]; exact hlt), List.getElem?_eq_getElem _⟩
   have HP := Lib.hid hp
   have HFP := Lib.hid (HF.out p (List.mem_of_getElem? hp))
   have HDR : Hid (ll.drop i = p.2 :: ll.drop i1) := by
    show _ = _
    rw [HI1.out]
    have h1 : ll[i]? = some p.2 := by rw [← HLL.out, List.getElem?_map, hp]; rfl
    obtain ⟨h2, h3⟩ := List.getElem?_eq_some_iff.1 h1
    rw [List.drop_eq_getElem_cons h2, h3]
   obtain ⟨b, o, rfl, ⟨As, ns, cs, Aa, na, ca, h0, h1, h2, h3, h4, h5, hss, hsi⟩, hbl⟩ := (HT.out.below HQ.out.bel).at' i p hp
   obtain ⟨line, s⟩ := p
   simp only at h0 h1 h2 h3 h4 h5 hss hsi
   have HBAD : Hid (¬ (plainT (spellT s) = true ∧ stepM (wordsM (spellT s)) = some s ∧ s.srcs.all known.contains = true) → res = ([], 7)) := fun hno => by
    rw [← HREM.out, HDR.out, writeP_cons, if_neg (fun h => hno ((fun x => ⟨x.1, x.2, h.2.2⟩) (spell_iff.2 ⟨h.1, h.2.1⟩)))]
    rfl
   have HSPW := rspell_any (s := s) (line := line) (A := As) (n := ns) (c := cs) (A2 := Aa) (m := na) (c2 := ca) wr (HVV.out.below HQ.out.bel (Nat.le_refl _)) hss hsi HFP.out.2.2 (by have h : (headS s).length ≤ 8388608 := HFP.out.1; omega)
   obtain ⟨zo, hzo⟩ : ∃ z, ba s.op = z := ⟨_, rfl⟩
   obtain ⟨zd, hzd⟩ : ∃ z, ba s.dst = z := ⟨_, rfl⟩
   obtain ⟨zf, hzf⟩ : ∃ z, ba s.file = z := ⟨_, rfl⟩
   obtain ⟨tt, htt⟩ : ∃ x, spellT s = x := ⟨_, rfl⟩
   have HTT := Lib.hid htt
   have htlen : tt.length ≤ 33554432 := by rw [← htt]; exact HFP.out.len
   obtain ⟨zt, hzt⟩ : ∃ z, ba tt = z := ⟨_, rfl⟩
   have HZT := Lib.hid hzt
   have HZTL : Hid (zt.data.toList = tt) := by show _ = _; rw [← hzt]; rfl
   obtain ⟨nt, hnt⟩ : ∃ x, zt.size = x := ⟨_, rfl⟩
   have HNT : Hid (tt.length = nt) := by show _ = _; rw [← hnt, ← hzt]; rfl
   have HNTB : Hid (nt ≤ 33554432) := by show _ ≤ _; rw [← HNT.out]; exact htlen
   have HZN := Lib.hid hnt
   rw [hzo, hzd, hzf, htt, hzt] at HSPW
   rw [hzo] at h1
   rw [hzd] at h2
   rw [hzf] at h4
   rw [htt] at HBAD
   have HSP := Lib.hid HSPW
   clear hp hlt hi hi1 hib hss hsi hbl HSPW hzo hzd hzf htt hzt htlen hzout
   go_wp2_with (first | (go_at_call 36; refine HSP.out.mono ?_; rintro e V1 ⟨rfl, hb⟩; (have HQ1 := Lib.hid (HQ.out.on hb)); clear hb HSP) | fail)
   clear h0 h1 h2 h3 h4 h5
   go_loopw [8] (fun s8 wx => ∃ k : Nat, k ≤ nt ∧ s8 = .int .i64 (k : Int) ∧ V1 = wx ∧ Hid ((tt.take k).all pc = true)) (fun s8 _ => nt - (intOf s8).toNat)
   case atStart => exact ⟨0, Nat.zero_le _, rfl, rfl, rfl⟩
   case round =>
    obtain ⟨k, hk, rfl, rfl, HPK⟩ := hrel
    by_cases hkn : k < nt
    ·have HKN := Lib.hid hkn
     have g0 : decide ((k : Int) < (nt : Int)) = true := decide_eq_true (by omega)
     have g1 : decide (k < nt) = true := decide_eq_true hkn
     have g2 : (k : Int) < nt := by omega
     have g3 : (0 : Int) ≤ (k : Int) := by omega
     obtain ⟨k1, hk1⟩ : ∃ x : Nat, k + 1 = x := ⟨_, rfl⟩
     have hkb : k ≤ 1099511627776 := Nat.le_trans (Nat.le_trans hk HNTB.out) (by decide)
     have g4 : wrap64 ((k : Int) + 1) = (k1 : Int) := wrap1 hkb hk1
     have g5 : IntKind.i64.wrap ((k : Int) + 1) = (k1 : Int) := wrap2 hkb hk1
     have HK1 := Lib.hid hk1
     obtain ⟨ch, hc, hcl⟩ := byte_at (s := zt) (k := k) (by rw [HZN.out]; exact HKN.out)
     rw [HZTL.out] at hcl
     have HCL := Lib.hid hcl
     have HTK : Hid (tt.take k1 = tt.take k ++ [ch]) := by show _ = _; rw [← hk1, List.take_add_one, hcl]; rfl
     clear hk hkn hk1 hkb hcl
     by_cases c10 : ch = 10
     ·have q9 : ((ch.toNat : Nat) : Int) = 10 := by rw [c10]; rfl
      have p10 : (((ch.toNat : Nat) : Int) == 10) = true := by rw [q9]; rfl
      have HE : Hid (res = ([], 7)) := HBAD.out (fun h => by have h2 := h.1; rw [bad_char HCL.out (by rw [c10]; decide)] at h2; cases h2)
      clear q9 c10
      go_wp2_with fail
      try rw [Exit.noGoto_ret]
      refine bodyPost_ret (results_tmp2 rfl _ _ _) rfl ?_
      exact ⟨by rw [HE.out]; rfl, HQ1.out.bel⟩
     by_cases c13 : ch = 13
     ·have q9 : ((ch.toNat : Nat) : Int) = 13 := by rw [c13]; rfl
      have p10 : (((ch.toNat : Nat) : Int) == 10) = false := beq_eq_false_iff_ne.2 (neq_nat (n := 10) (by decide) c10)
      have p13 : (((ch.toNat : Nat) : Int) == 13) = true := by rw [q9]; rfl
      have HE : Hid (res = ([], 7)) := HBAD.out (fun h => by have h2 := h.1; rw [bad_char HCL.out (by rw [c13]; decide)] at h2; cases h2)
      clear q9 c10 c13
      go_wp2_with fail
      try rw [Exit.noGoto_ret]
      refine bodyPost_ret (results_tmp2 rfl _ _ _) rfl ?_
      exact ⟨by rw [HE.out]; rfl, HQ1.out.bel⟩
     by_cases c9 : ch = 9
     ·have q9 : ((ch.toNat : Nat) : Int) = 9 := by rw [c9]; rfl
      have p10 : (((ch.toNat : Nat) : Int) == 10) = false := beq_eq_false_iff_ne.2 (neq_nat (n := 10) (by decide) c10)
      have p13 : (((ch.toNat : Nat) : Int) == 13) = false := beq_eq_false_iff_ne.2 (neq_nat (n := 13) (by decide) c13)
      have p9 : (((ch.toNat : Nat) : Int) == 9) = true := by rw [q9]; rfl
      have HE : Hid (res = ([], 7)) := HBAD.out (fun h => by have h2 := h.1; rw [bad_char HCL.out (by rw [c9]; decide)] at h2; cases h2)
      clear q9 c10 c13 c9
      go_wp2_with fail
      try rw [Exit.noGoto_ret]
      refine bodyPost_ret (results_tmp2 rfl _ _ _) rfl ?_
      exact ⟨by rw [HE.out]; rfl, HQ1.out.bel⟩
     by_cases c35 : ch = 35
     ·have q9 : ((ch.toNat : Nat) : Int) = 35 := by rw [c35]; rfl
      have p10 : (((ch.toNat : Nat) : Int) == 10) = false := beq_eq_false_iff_ne.2 (neq_nat (n := 10) (by decide) c10)
      have p13 : (((ch.toNat : Nat) : Int) == 13) = false := beq_eq_false_iff_ne.2 (neq_nat (n := 13) (by decide) c13)
      have p9 : (((ch.toNat : Nat) : Int) == 9) = false := beq_eq_false_iff_ne.2 (neq_nat (n := 9) (by decide) c9)
      have p35 : (((ch.toNat : Nat) : Int) == 35) = true := by rw [q9]; rfl
      have HE : Hid (res = ([], 7)) := HBAD.out (fun h => by have h2 := h.1; rw [bad_char HCL.out (by rw [c35]; decide)] at h2; cases h2)
      clear q9 c10 c13 c9 c35
      go_wp2_with fail
      try rw [Exit.noGoto_ret]
      refine bodyPost_ret (results_tmp2 rfl _ _ _) rfl ?_
      exact ⟨by rw [HE.out]; rfl, HQ1.out.bel⟩
     have p10 : (((ch.toNat : Nat) : Int) == 10) = false := beq_eq_false_iff_ne.2 (neq_nat (n := 10) (by decide) c10)
     have p13 : (((ch.toNat : Nat) : Int) == 13) = false := beq_eq_false_iff_ne.2 (neq_nat (n := 13) (by decide) c13)
     have p9 : (((ch.toNat : Nat) : Int) == 9) = false := beq_eq_false_iff_ne.2 (neq_nat (n := 9) (by decide) c9)
     have p35 : (((ch.toNat : Nat) : Int) == 35) = false := beq_eq_false_iff_ne.2 (neq_nat (n := 35) (by decide) c35)
     have HPC : Hid (pc ch = true) := by show pc ch = true; unfold pc; simp [c10, c13, c9, c35]
     clear c10 c13 c9 c35
     go_wp2_with fail
     go_roundw
     case rel => exact ⟨k1, by have := HK1.out; have := HKN.out; omega, rfl, by first | rfl | trivial, by show _ = _; rw [HTK.out, List.all_append, HPK.out, List.all_cons, HPC.out]; rfl⟩
     case measure => show nt - (k1 : Int).toNat < nt - (k : Int).toNat; have := HK1.out; have := HKN.out; simp only [Int.toNat_natCast]; omega
    ·have HPL : Hid (plainT tt = true) := by
      show _ = _
      have h := HPK.out
      rw [List.take_of_length_le (by rw [HNT.out]; omega)] at h
      exact h
     have g0 : decide ((k : Int) < (nt : Int)) = false := decide_eq_false (by omega)
     have g1 : decide (k < nt) = false := decide_eq_false hkn
     clear hk hkn
     obtain ⟨WD, hWD⟩ : ∃ x, wordsM tt = x := ⟨_, rfl⟩
     obtain ⟨nw, hnw⟩ : ∃ x, WD.length = x := ⟨_, rfl⟩
     have HWDM := Lib.hid hWD
     have HNW := Lib.hid hnw
     have HWN : Hid (nw ≤ 8796093022000) := by show _ ≤ _; rw [← hnw, ← hWD]; have := words_len tt; have := HNT.out; have := HNTB.out; omega
     have HWD : Hid (Calls Tryz.prog 26 #[.string zt] V1 fun e w' => Below V1.heap.size V1 w' ∧ ∃ A c, e = .returned (.slice A nw c) ∧ w'.ownsRow V1.heap.size 9 1 (.slice A nw c) nw (WD.map vS)) := by
      have h := rwords_any zt V1 (by rw [HZN.out]; have := HNTB.out; omega)
      rw [HZTL.out, hWD] at h
      unfold RWordsP at h
      rw [hnw] at h
      exact h
     rw [hWD] at HBAD
     clear hWD hnw
     by_cases hw0 : WD = []
     ·have q0 : ((nw : Int) == 0) = true := by have h1 := HNW.out; rw [hw0] at h1; simp at h1; simp; omega
      have q2 : decide ((nw : Int) = 0) = true := by have h1 := HNW.out; rw [hw0] at h1; simp at h1; simp; omega
      have HE : Hid (res = ([], 7)) := HBAD.out (fun h => by have h2 := h.2.1; rw [hw0, step_nil] at h2; cases h2)
      clear hw0
      go_wp2_with (first | (go_at_call 26; refine HWD.out.mono ?_; rintro e V2 ⟨hb, A4, c4, rfl, hown⟩; (have HQ2 := Lib.hid (HQ1.out.on hb)); clear hb hown HWD) | fail)
      try rw [Exit.noGoto_ret]
      refine bodyPost_ret (results_tmp2 rfl _ _ _) rfl ?_
      exact ⟨by rw [HE.out]; rfl, HQ2.out.bel⟩
     have hn1 : 1 ≤ nw := by rw [← HNW.out]; exact List.length_pos_iff.2 hw0
     have q0 : ((nw : Int) == 0) = false := by simp; omega
     have q2 : decide ((nw : Int) = 0) = false := decide_eq_false (by omega)
     clear hw0
     cases hst : stepM WD with
     | none =>
      have HE : Hid (res = ([], 7)) := HBAD.out (fun h => by have h2 := h.2.1; rw [hst] at h2; cases h2)
      go_wp2_with (first | (go_at_call 26; refine HWD.out.mono ?_; rintro e V2 ⟨hb, A4, c4, rfl, hown⟩; (have HQ2 := Lib.hid (HQ1.out.on hb)); (have HSTP := rstep_any V2 (SS.of_own hown HWN.out) hn1 (own_cap hown)); rw [hst] at HSTP; (have HSTP := Lib.hid HSTP); (have HN1 := Lib.hid hn1); clear hb hown hst hn1 HWD) | (go_at_call 27; refine HSTP.out.mono ?_; rintro e V3 ⟨hb3, he⟩; (try (simp only at he)); obtain ⟨o1, o2, o3, o4, o5, o6, o7, o8, o9, he⟩ := he; (have HQ3 := Lib.hid (HQ2.out.on hb3)); obtain ⟨SC, hSC⟩ : ∃ x, stC 0 o1 o2 o3 o4 o5 o6 o7 o8 o9 = x := ⟨_, rfl⟩; rw [hSC] at he; subst he; (have HS6 : Hid (SC.size = 6) := (by rw [← hSC]; rfl)); (have HONE : Hid (SC.all (·.oneCell') = true) := (by rw [← hSC]; exact stC_one _ _ _ _ _ _ _ _ _ _)); clear hb3 hSC HSTP; obtain ⟨WA, hWA⟩ : ∃ x, V3.alloc (.cells #[.int .i64 0, .string ⟨#[]⟩, .string ⟨#[]⟩, .slice none 0 0, .string ⟨#[]⟩, .slice none 0 0] 37) = x := ⟨_, rfl⟩; (have HXA : Hid (WA.heap[V3.heap.size]? = some (.cells st0 37 (0, 0))) := (by rw [← hWA]; exact heap_alloc_new V3 _)); (have HBA : Hid (Below V3.heap.size V3 WA) := (by rw [← hWA]; exact (Below.refl _ _).alloc (Nat.le_refl _) _))) | (refine wpList_store_rowG rfl 37 (.tmp 10) (.tmp 63) rfl V3.heap.size SC rfl rfl 37 st0 HXA.out (by rw [HS6.out]; exact infoSt) (by rw [HS6.out]; rfl) HONE.out ?_; intro W4 hr4 hg4; (have HR4 := Lib.hid hr4); (have HB4 : Hid (Below V3.heap.size V3 W4) := HBA.out.grown hg4 HBA.out.size (fun q e => by injection e with e; omega)); clear hr4 hg4; (have HQ4 := Lib.hid (HQ3.out.on HB4.out))) | fail)
      refine wp_region_held_drew (S := fun _ => True) (by kernel_rfl) trivial (fun hHeld => ?_)
      obtain ⟨V4, hV4⟩ : ∃ x, W4.drew = x := ⟨_, rfl⟩
      have HQ5 := Lib.hid (HQ4.out.on (Below.refl _ _).drew)
      rw [hV4] at HQ5 ⊢
      clear hV4
      refine wpAnyH_take (i := 0) (v := .bool false) rfl (by kernel_rfl) (by kernel_rfl) (by kernel_rfl) (fun _ _ _ h => h) (Or.inl ⟨by rfl, ?_⟩) hHeld ?_
      ·intro wz hSw; go_simp
      try simp only [Act.put, List.getElem_toArray, List.getElem_cons_succ, List.getElem_cons_zero, List.setIfInBounds_toArray, List.set_cons_zero, List.set_cons_succ]
      refine wpAnyH_take (i := 1) (v := .bool true) rfl (by kernel_rfl) (by kernel_rfl) (by kernel_rfl) (fun _ _ _ h => h) (Or.inl ⟨by rfl, ?_⟩) hHeld ?_
      ·intro wz hSw; go_simp
      try simp only [Act.put, List.getElem_toArray, List.getElem_cons_succ, List.getElem_cons_zero, List.setIfInBounds_toArray, List.set_cons_zero, List.set_cons_succ]
      refine wpAnyH_take (i := 2) (v := .bool true) rfl (by kernel_rfl) (by kernel_rfl) (by kernel_rfl) (fun _ _ _ h => h) (Or.inl ⟨by rfl, ?_⟩) hHeld ?_
      ·intro wz hSw; go_simp
      try simp only [Act.put, List.getElem_toArray, List.getElem_cons_succ, List.getElem_cons_zero, List.setIfInBounds_toArray, List.set_cons_zero, List.set_cons_succ]
      refine Ord.held_skip (i := 3) (d := 68) rfl rfl (by kernel_rfl) (by kernel_rfl) (by kernel_rfl) (fun _ _ _ h => h) (by kernel_rfl) hHeld ?_
      try simp only [Act.put, List.getElem_toArray, List.getElem_cons_succ, List.getElem_cons_zero, List.setIfInBounds_toArray, List.set_cons_zero, List.set_cons_succ]
      refine Ord.held_skip (i := 5) (d := 70) rfl rfl (by kernel_rfl) (by kernel_rfl) (by kernel_rfl) (fun _ _ _ h => h) (by kernel_rfl) hHeld ?_
      try simp only [Act.put, List.getElem_toArray, List.getElem_cons_succ, List.getElem_cons_zero, List.setIfInBounds_toArray, List.set_cons_zero, List.set_cons_succ]
      refine Ord.held_skip (i := 6) (d := 71) rfl rfl (by kernel_rfl) (by kernel_rfl) (by kernel_rfl) (fun _ _ _ h => h) (by kernel_rfl) hHeld ?_
      try simp only [Act.put, List.getElem_toArray, List.getElem_cons_succ, List.getElem_cons_zero, List.setIfInBounds_toArray, List.set_cons_zero, List.set_cons_succ]
      refine Ord.held_skip (i := 7) (d := 72) rfl rfl (by kernel_rfl) (by kernel_rfl) (by kernel_rfl) (fun _ _ _ h => h) (by kernel_rfl) hHeld ?_
      try simp only [Act.put, List.getElem_toArray, List.getElem_cons_succ, List.getElem_cons_zero, List.setIfInBounds_toArray, List.set_cons_zero, List.set_cons_succ]
      refine Ord.held_skip (i := 8) (d := 73) rfl rfl (by kernel_rfl) (by kernel_rfl) (by kernel_rfl) (fun _ _ _ h => h) (by kernel_rfl) hHeld ?_
      try simp only [Act.put, List.getElem_toArray, List.getElem_cons_succ, List.getElem_cons_zero, List.setIfInBounds_toArray, List.set_cons_zero, List.set_cons_succ]
      refine Ord.held_skip (i := 9) (d := 74) rfl rfl (by kernel_rfl) (by kernel_rfl) (by kernel_rfl) (fun _ _ _ h => h) (by kernel_rfl) hHeld ?_
      try simp only [Act.put, List.getElem_toArray, List.getElem_cons_succ, List.getElem_cons_zero, List.setIfInBounds_toArray, List.set_cons_zero, List.set_cons_succ]
      refine wpAnyH_ready (rs := [4]) (by kernel_rfl) (by simp) ?_
      refine AllReadyH.cons rfl (fun K hK => ?_) AllReadyH.nil
      go_simp
      refine hK.out _ _ trivial (fun hHeld => ?_)
      clear hK K
      try simp only [Act.put, List.getElem_toArray, List.getElem_cons_succ, List.getElem_cons_zero, List.setIfInBounds_toArray, List.set_cons_zero, List.set_cons_succ]
      refine wpAnyH_ready (rs := [10]) (by kernel_rfl) (by simp) ?_
      refine AllReadyH.cons rfl (fun K hK => ?_) AllReadyH.nil
      go_simp
      refine hK.out _ _ trivial (fun hHeld => ?_)
      clear hK K
      try simp only [Act.put, List.getElem_toArray, List.getElem_cons_succ, List.getElem_cons_zero, List.setIfInBounds_toArray, List.set_cons_zero, List.set_cons_succ]
      refine Ord.held_skip (i := 11) (d := 76) rfl rfl (by kernel_rfl) (by kernel_rfl) (by kernel_rfl) (fun _ _ _ h => h) (by kernel_rfl) hHeld ?_
      try simp only [Act.put, List.getElem_toArray, List.getElem_cons_succ, List.getElem_cons_zero, List.setIfInBounds_toArray, List.set_cons_zero, List.set_cons_succ]
      refine wpAnyH_take (i := 12) (v := .bool true) rfl (by kernel_rfl) (by kernel_rfl) (by kernel_rfl) (fun _ _ _ h => h) (Or.inl ⟨by rfl, ?_⟩) hHeld ?_
      ·intro wz hSw; go_simp
      try simp only [Act.put, List.getElem_toArray, List.getElem_cons_succ, List.getElem_cons_zero, List.setIfInBounds_toArray, List.set_cons_zero, List.set_cons_succ]
      refine wpAnyH_done (by kernel_rfl) ?_ _
      go_wp2_with fail
      try rw [Exit.noGoto_ret]
      refine bodyPost_ret (results_tmp2 rfl _ _ _) rfl ?_
      exact ⟨by rw [HE.out]; rfl, HQ5.out.bel⟩
     | some s2 =>
      have HST := Lib.hid hst
      have HNEM : Hid (∀ u ∈ s2.srcs, u ≠ []) := (step_spell hst).2.2.2
      have HSRCN : Hid (s2.srcs.length ≤ 33554433) := by show _ ≤ _; have h1 := stepM_srcs hst; have h2 := words_len tt; rw [HWDM.out] at h2; have h3 := HNT.out; have h4 := HNTB.out; omega
      have HARGN : Hid (s2.args.length ≤ 33554433) := by show _ ≤ _; have h1 := stepM_args hst; have h2 := words_len tt; rw [HWDM.out] at h2; have h3 := HNT.out; have h4 := HNTB.out; omega
      obtain ⟨zo2, hzo2⟩ : ∃ z, ba s2.op = z := ⟨_, rfl⟩
      obtain ⟨zd2, hzd2⟩ : ∃ z, ba s2.dst = z := ⟨_, rfl⟩
      obtain ⟨zf2, hzf2⟩ : ∃ z, ba s2.file = z := ⟨_, rfl⟩
      have HZO2 := Lib.hid hzo2
      have HZD2 := Lib.hid hzd2
      have HZF2 := Lib.hid hzf2
      obtain ⟨eqb, heqb⟩ : ∃ x, decide (List.map (fun x : Int × St => x.2) [((0 : Int), s2)] = List.map (fun x : Int × St => x.2) [(line, s)]) = x := ⟨_, rfl⟩
      have HEQB := Lib.hid heqb
      obtain ⟨cr, hcr⟩ : ∃ x, c - i = x := ⟨_, rfl⟩
      have hsl := fun w => run_partG (P := Tryz.prog) (t := 23) (e := 37) (z := 6) (b := b) (o := o) (n := n) (c := c) (a := i) (m := i1) (i := (i : Int)) (j := (i1 : Int)) Tryz.underlying23 (by kernel_rfl) rfl rfl (by have := HI1.out; omega) (by have := HI1.out; have := HLT.out; have := HCAP.out; omega) (by have := HLT.out; have := HCAP.out; omega) w
      rw [show i1 - i = 1 by have := HI1.out; omega, hcr] at hsl
      clear hzo2 hzd2 hzf2 heqb hcr
      go_wp2_with (first | (go_at_call 26; refine HWD.out.mono ?_; rintro e V2 ⟨hb, A4, c4, rfl, hown⟩; (have HQ2 := Lib.hid (HQ1.out.on hb)); (have HSTP := rstep_any V2 (SS.of_own hown HWN.out) hn1 (own_cap hown)); rw [hst] at HSTP; (have HSTP := Lib.hid HSTP); (have HN1 := Lib.hid hn1); clear hb hown hst hn1 HWD) | (go_at_call 27; refine HSTP.out.mono ?_; rintro e V3 ⟨hb3, he⟩; (try (simp only at he)); obtain ⟨As2, ns2, cs2, A2, m2, c2, he, ho1, ho2⟩ := he; (have HQ3 := Lib.hid (HQ2.out.on hb3)); (have HO1 := Lib.hid ho1); (have HO2 := Lib.hid ho2); (have he : e = .returned (.tuple #[.agg #[.int .i64 0, .string zo2, .string zd2, .slice As2 ns2 cs2, .string zf2, .slice A2 m2 c2], .bool true]) := (by rw [he, HZO2.out, HZD2.out, HZF2.out]; rfl)); subst he; obtain ⟨SC, hSC⟩ : ∃ x, (#[.int .i64 0, .string zo2, .string zd2, .slice As2 ns2 cs2, .string zf2, .slice A2 m2 c2] : Array Value) = x := ⟨_, rfl⟩; (have HSC := Lib.hid hSC); (have HS6 : Hid (SC.size = 6) := (by rw [← hSC]; rfl)); (have HONE : Hid (SC.all (·.oneCell') = true) := (by rw [← hSC]; exact stC_one 0 zo2 zd2 As2 ns2 cs2 zf2 A2 m2 c2)); rw [hSC]; clear hb3 ho1 ho2 hSC HSTP; obtain ⟨WA, hWA⟩ : ∃ x, V3.alloc (.cells #[.int .i64 0, .string ⟨#[]⟩, .string ⟨#[]⟩, .slice none 0 0, .string ⟨#[]⟩, .slice none 0 0] 37) = x := ⟨_, rfl⟩; (have HXA : Hid (WA.heap[V3.heap.size]? = some (.cells st0 37 (0, 0))) := (by rw [← hWA]; exact heap_alloc_new V3 _)); (have HBA : Hid (Below V3.heap.size V3 WA) := (by rw [← hWA]; exact (Below.refl _ _).alloc (Nat.le_refl _) _))) | (refine wpList_store_rowG rfl 37 (.tmp 10) (.tmp 63) rfl V3.heap.size SC rfl rfl 37 st0 HXA.out (by rw [HS6.out]; exact infoSt) (by rw [HS6.out]; rfl) HONE.out ?_; intro W4 hr4 hg4; (have HR4 := Lib.hid hr4); (have HB4 : Hid (Below V3.heap.size V3 W4) := HBA.out.grown hg4 HBA.out.size (fun q e => by injection e with e; omega)); clear hr4 hg4; (have HQ4 := Lib.hid (HQ3.out.on HB4.out))) | fail)
      refine wp_region_held_drew (S := fun V => V.heap[V3.heap.size]? = some (.cells #[.int .i64 0, .string zo2, .string zd2, .slice As2 ns2 cs2, .string zf2, .slice A2 m2 c2] 37 (0, 0))) (by kernel_rfl) (HR4.out.trans (by rw [← HSC.out])) (fun hHeld => ?_)
      obtain ⟨V4, hV4⟩ : ∃ x, W4.drew = x := ⟨_, rfl⟩
      have HQ5 := Lib.hid (HQ4.out.on (Below.refl _ _).drew)
      have HB34 : Hid (Below V3.heap.size V3 V4) := by show Below _ _ _; rw [← hV4]; exact HB4.out.drew
      have HG34 : Hid (V3.heap.size < V4.heap.size) := by show _ < _; rw [← hV4]; exact (Array.getElem?_eq_some_iff.1 HR4.out).1
      rw [hV4] at HQ5 hHeld ⊢
      clear hV4
      refine wpAnyH_take (i := 0) (v := .bool true) rfl (by kernel_rfl) (by kernel_rfl) (by kernel_rfl) (fun _ _ _ h => h) (Or.inl ⟨by rfl, ?_⟩) hHeld ?_
      ·intro wz hSw; go_simp
      try simp only [Act.put, List.getElem_toArray, List.getElem_cons_succ, List.getElem_cons_zero, List.setIfInBounds_toArray, List.set_cons_zero, List.set_cons_succ]
      refine wpAnyH_take (i := 1) (v := .bool false) rfl (by kernel_rfl) (by kernel_rfl) (by kernel_rfl) (fun _ _ _ h => h) (Or.inl ⟨by rfl, ?_⟩) hHeld ?_
      ·intro wz hSw; go_simp
      try simp only [Act.put, List.getElem_toArray, List.getElem_cons_succ, List.getElem_cons_zero, List.setIfInBounds_toArray, List.set_cons_zero, List.set_cons_succ]
      refine wpAnyH_take (i := 2) (v := .bool false) rfl (by kernel_rfl) (by kernel_rfl) (by kernel_rfl) (fun _ _ _ h => h) (Or.inl ⟨by rfl, ?_⟩) hHeld ?_
      ·intro wz hSw; go_simp
      try simp only [Act.put, List.getElem_toArray, List.getElem_cons_succ, List.getElem_cons_zero, List.setIfInBounds_toArray, List.set_cons_zero, List.set_cons_succ]
      refine wpAnyH_take (i := 3) (v := .agg (#[.int .i64 0, .string zo2, .string zd2, .slice As2 ns2 cs2, .string zf2, .slice A2 m2 c2])) rfl (by kernel_rfl) (by kernel_rfl) (by kernel_rfl) (fun _ _ _ h => h) (yields_row (by rfl) 37 _ rfl (V3.heap.size) rfl 37 (#[.int .i64 0, .string zo2, .string zd2, .slice As2 ns2 cs2, .string zf2, .slice A2 m2 c2]) (0, 0) _ (fun _ h => h) Tryz.underlying37 rfl (infoSt)) hHeld ?_
      try simp only [Act.put, List.getElem_toArray, List.getElem_cons_succ, List.getElem_cons_zero, List.setIfInBounds_toArray, List.set_cons_zero, List.set_cons_succ]
      refine wpAnyH_take (i := 5) (v := .slice (some ⟨b, o, none⟩) n c) rfl (by kernel_rfl) (by kernel_rfl) (by kernel_rfl) (fun _ _ _ h => h) (Or.inl ⟨by kernel_rfl, ?_⟩) hHeld ?_
      ·intro wz hSw; go_simp
      try simp only [Act.put, List.getElem_toArray, List.getElem_cons_succ, List.getElem_cons_zero, List.setIfInBounds_toArray, List.set_cons_zero, List.set_cons_succ]
      refine wpAnyH_take (i := 6) (v := .int .i64 (i : Int)) rfl (by kernel_rfl) (by kernel_rfl) (by kernel_rfl) (fun _ _ _ h => h) (Or.inl ⟨by kernel_rfl, ?_⟩) hHeld ?_
      ·intro wz hSw; go_simp
      try simp only [Act.put, List.getElem_toArray, List.getElem_cons_succ, List.getElem_cons_zero, List.setIfInBounds_toArray, List.set_cons_zero, List.set_cons_succ]
      refine wpAnyH_take (i := 7) (v := .int .i64 (i : Int)) rfl (by kernel_rfl) (by kernel_rfl) (by kernel_rfl) (fun _ _ _ h => h) (Or.inl ⟨by kernel_rfl, ?_⟩) hHeld ?_
      ·intro wz hSw; go_simp
      try simp only [Act.put, List.getElem_toArray, List.getElem_cons_succ, List.getElem_cons_zero, List.setIfInBounds_toArray, List.set_cons_zero, List.set_cons_succ]
      refine wpAnyH_take (i := 8) (v := .int .i64 (i1 : Int)) rfl (by kernel_rfl) (by kernel_rfl) (by kernel_rfl) (fun _ _ _ h => h) (Or.inl ⟨by kernel_rfl, ?_⟩) hHeld ?_
      ·intro wz hSw; go_simp
      try simp only [Act.put, List.getElem_toArray, List.getElem_cons_succ, List.getElem_cons_zero, List.setIfInBounds_toArray, List.set_cons_zero, List.set_cons_succ]
      refine wpAnyH_take (i := 9) (v := .slice (some ⟨b, o + i * 6, none⟩) 1 cr) rfl (by kernel_rfl) (by kernel_rfl) (by kernel_rfl) (fun _ _ _ h => h) (Or.inl ⟨by kernel_rfl, ?_⟩) hHeld ?_
      ·intro wz hSw; go_simp
      try simp only [Act.put, List.getElem_toArray, List.getElem_cons_succ, List.getElem_cons_zero, List.setIfInBounds_toArray, List.set_cons_zero, List.set_cons_succ]
      refine wpAnyH_ready (rs := [4]) (by kernel_rfl) (by simp) ?_
      refine AllReadyH.cons rfl (fun K hK => ?_) AllReadyH.nil
      go_simp
      obtain ⟨V6, hV6⟩ : ∃ x, V4.alloc (.cells #[.int .i64 0, .string zo2, .string zd2, .slice As2 ns2 cs2, .string zf2, .slice A2 m2 c2] 37) = x := ⟨_, rfl⟩
      have HB6 : Hid (Below V4.heap.size V4 V6) := by show Below _ _ _; rw [← hV6]; exact (Below.refl _ _).alloc (Nat.le_refl _) _
      have hr6 : V6.heap[V4.heap.size]? = some (.cells #[.int .i64 0, .string zo2, .string zd2, .slice As2 ns2 cs2, .string zf2, .slice A2 m2 c2] 37 (0, 0)) := by rw [← hV6]; exact heap_alloc_new V4 _
      have HQ6 := Lib.hid (HQ5.out.on HB6.out)
      have HL6 : Hid (TS V6 (some ⟨V4.heap.size, 0, none⟩) 1 [((0 : Int), s2)]) := TS.one ⟨As2, ns2, cs2, A2, m2, c2, Ard.row_cell hr6 0, by rw [HZO2.out]; exact Ard.row_cell hr6 1, by rw [HZD2.out]; exact Ard.row_cell hr6 2, Ard.row_cell hr6 3, by rw [HZF2.out]; exact Ard.row_cell hr6 4, Ard.row_cell hr6 5, (SS.of_own (own_below HO1.out HB34.out) (by have := HSRCN.out; have h := HO1.out.1; simp at h; omega)).below HB6.out, (SI.of_own (own_below HO2.out HB34.out) (by have := HARGN.out; have h := HO2.out.1; simp at h; show m2 * 8 ≤ _; omega)).below HB6.out (Nat.le_refl _)⟩ (Array.getElem?_eq_some_iff.1 hr6).1
      have HP6 : Hid (TS V6 (some ⟨b, o + i * 6, none⟩) 1 [(line, s)]) := (HT.out.below HQ6.out.bel).part rfl HP.out
      try rw [hV6]
      clear hV6 hr6
      refine hK.out _ _ ((HB6.out.block _ HG34.out).trans hHeld) (fun hHeld => ?_)
      clear hK K
      try simp only [Act.put, List.getElem_toArray, List.getElem_cons_succ, List.getElem_cons_zero, List.setIfInBounds_toArray, List.set_cons_zero, List.set_cons_succ]
      refine wpAnyH_ready (rs := [10]) (by kernel_rfl) (by simp) ?_
      refine AllReadyH.cons rfl (fun K hK => ?_) AllReadyH.nil
      go_simp
      refine (rsame_any V6 HL6.out HP6.out).mono ?_
      rintro e V7 ⟨rfl, hb7⟩
      rw [show decide (List.map (fun x => x.2) [((0 : Int), s2)] = List.map (fun x => x.2) [(line, s)]) = eqb from HEQB.out]
      have HB7 : Hid (Below V4.heap.size V4 V7) := HB6.out.trans (hb7.mono HB6.out.size)
      have HQ7 := Lib.hid (HQ6.out.on hb7)
      refine hK.out _ _ ((hb7.block _ (Nat.lt_of_lt_of_le HG34.out HB6.out.size)).trans hHeld) (fun hHeld => ?_)
      clear hK K
      try simp only [Act.put, List.getElem_toArray, List.getElem_cons_succ, List.getElem_cons_zero, List.setIfInBounds_toArray, List.set_cons_zero, List.set_cons_succ]
      clear hb7
      refine wpAnyH_take (i := 11) (v := .bool (!eqb)) rfl (by kernel_rfl) (by kernel_rfl) (by kernel_rfl) (fun _ _ _ h => h) (Or.inl ⟨by kernel_rfl, ?_⟩) hHeld ?_
      ·intro wz hSw; go_simp
      try simp only [Act.put, List.getElem_toArray, List.getElem_cons_succ, List.getElem_cons_zero, List.setIfInBounds_toArray, List.set_cons_zero, List.set_cons_succ]
      refine wpAnyH_take (i := 12) (v := .bool (!eqb)) rfl (by kernel_rfl) (by kernel_rfl) (by kernel_rfl) (fun _ _ _ h => h) (Or.inl ⟨by rfl, ?_⟩) hHeld ?_
      ·intro wz hSw; go_simp
      try simp only [Act.put, List.getElem_toArray, List.getElem_cons_succ, List.getElem_cons_zero, List.setIfInBounds_toArray, List.set_cons_zero, List.set_cons_succ]
      refine wpAnyH_done (by kernel_rfl) ?_ _
      cases eqb
      ·have HE : Hid (res = ([], 7)) := HBAD.out (fun h => by
        have h2 := h.2.1
        rw [HST.out] at h2
        injection h2 with h2
        have h3 := of_decide_eq_false HEQB.out
        exact h3 (by rw [h2]; rfl))
       clear hsl
       simp only [Bool.not_false]
       go_wp2_with fail
       try rw [Exit.noGoto_ret]
       refine bodyPost_ret (results_tmp2 rfl _ _ _) rfl ?_
       exact ⟨by rw [HE.out]; rfl, HQ7.out.bel⟩
      ·simp only [Bool.not_true]
       have hss2 : s2 = s := by
        have h3 := of_decide_eq_true HEQB.out
        simpa using h3
       subst hss2
       have HALL : Hid (s2.srcs.all kn.contains = s2.srcs.all known.contains) := by
        show _ = _
        have h1 := HNEM.out
        have h2 := HKK.out
        generalize s2.srcs = L at h1
        induction L with
        | nil => rfl
        | cons a r ih => rw [List.all_cons, List.all_cons, ih (fun u hu => h1 u (List.mem_cons_of_mem _ hu)), h2 a (h1 a List.mem_cons_self)]
       have HNS : Hid (s2.srcs.length = ns2) := by show _ = _; have := HO1.out.1; simpa using this
       have HSS : Hid (SS V7 As2 ns2 s2.srcs) := SS.of_own (own_below HO1.out (HB34.out.trans (HB7.out.mono HB34.out.size))) (by have := HSRCN.out; have := HNS.out; omega)
       have HSK : Hid (SS V7 A5 m kn) := SS.of_own HQ7.out.kno (by have := HMS.out; have := HN64.out; have := HLT.out; omega)
       have hr7 : V7.heap[V3.heap.size]? = some (.cells #[.int .i64 0, .string zo2, .string zd2, .slice As2 ns2 cs2, .string zf2, .slice A2 m2 c2] 37 (0, 0)) := hHeld
       have x3 : V7.cell? ⟨V3.heap.size, 3, none⟩ = some (.slice As2 ns2 cs2) := Ard.row_cell hr7 3
       have y2 : V7.cell? ⟨V3.heap.size, 2, none⟩ = some (.string zd2) := Ard.row_cell hr7 2
       clear hr7 hHeld hsl
       go_wp2_with fail
       go_loopw [12] (fun s12 wx => ∃ j : Nat, j ≤ ns2 ∧ s12 = .int .i64 (j : Int) ∧ V7 = wx ∧ Hid ((s2.srcs.take j).all kn.contains = true)) (fun s12 _ => ns2 - (intOf s12).toNat)
       case atStart => exact ⟨0, Nat.zero_le _, rfl, rfl, rfl⟩
       case round =>
        obtain ⟨j, hj, rfl, rfl, HAJ⟩ := hrel
        by_cases hjn : j < ns2
        ·have HJN := Lib.hid hjn
         obtain ⟨sb, so, u, rfl, hcu, hu, -⟩ := HSS.out.cell hjn
         have HU := Lib.hid hu
         have hjb : j ≤ 1099511627776 := Nat.le_trans (Nat.le_trans (Nat.le_of_lt hjn) (HNS.out ▸ HSRCN.out)) (by decide)
         have g0 : decide ((j : Int) < (ns2 : Int)) = true := decide_eq_true (by omega)
         have g1 : decide (j < ns2) = true := decide_eq_true hjn
         have g2 : (j : Int) < ns2 := by omega
         have g3 : (0 : Int) ≤ (j : Int) := by omega
         obtain ⟨k1, hk1⟩ : ∃ x : Nat, j + 1 = x := ⟨_, rfl⟩
         have g4 : wrap64 ((j : Int) + 1) = (k1 : Int) := wrap1 hjb hk1
         have g5 : IntKind.i64.wrap ((j : Int) + 1) = (k1 : Int) := wrap2 hjb hk1
         have HK1 := Lib.hid hk1
         obtain ⟨zu, hzu⟩ : ∃ z, ba u = z := ⟨_, rfl⟩
         obtain ⟨eu, heu⟩ : ∃ b, kn.contains u = b := ⟨_, rfl⟩
         have HEU := Lib.hid heu
         have HIN2 : Hid (Calls Tryz.prog 28 #[.string zu, .slice A5 m c5] V7 fun e w' => e = .returned (.bool eu) ∧ V7 = w') := by have h := in_any (c := c5) zu V7 HSK.out; rw [show zu.data.toList = u by rw [← hzu]; rfl, heu] at h; exact h
         rw [hzu] at hcu
         have HTK : Hid (s2.srcs.take k1 = s2.srcs.take j ++ [u]) := by show _ = _; rw [← hk1, List.take_add_one, hu]; rfl
         clear hj hjn hjb hu hk1 hzu heu
         cases eu
         ·have HE : Hid (res = ([], 7)) := HBAD.out (fun h => by
           have h2 := h.2.2
           rw [← HALL.out, List.all_eq_true] at h2
           have h3 := h2 u (List.mem_of_getElem? HU.out)
           rw [HEU.out] at h3
           cases h3)
          go_wp2_with (first | (go_at_call 28; refine HIN2.out.mono ?_; rintro e w' ⟨rfl, rfl⟩) | fail)
          try rw [Exit.noGoto_ret]
          refine bodyPost_ret (results_tmp2 rfl _ _ _) rfl ?_
          exact ⟨by rw [HE.out]; rfl, HQ7.out.bel⟩
         ·go_wp2_with (first | (go_at_call 28; refine HIN2.out.mono ?_; rintro e w' ⟨rfl, rfl⟩) | fail)
          go_roundw
          case rel => exact ⟨k1, by have := HK1.out; have := HJN.out; omega, rfl, by first | rfl | trivial, by show _ = _; rw [HTK.out, List.all_append, HAJ.out, List.all_cons, HEU.out]; rfl⟩
          case measure => show ns2 - (k1 : Int).toNat < ns2 - (j : Int).toNat; have := HK1.out; have := HJN.out; simp only [Int.toNat_natCast]; omega
        ·have g0 : decide ((j : Int) < (ns2 : Int)) = false := decide_eq_false (by omega)
         have g1 : decide (j < ns2) = false := decide_eq_false hjn
         have HAL : Hid (s2.srcs.all known.contains = true) := by
          show _ = _
          have h := HAJ.out
          rw [List.take_of_length_le (by rw [HNS.out]; omega)] at h
          rw [← HALL.out]
          exact h
         have HMORE : Hid (wrR (writeP (ll.drop i1) (out ++ (tt ++ [10])) (s2.dst :: known)) = res) := by
          show _ = _
          have h1 : stopS s2 = false ∧ stepM (spellW s2) = some s2 := spell_iff.1 ⟨by rw [HTT.out]; exact HPL.out, by rw [HTT.out, HWDM.out]; exact HST.out⟩
          rw [← HREM.out, HDR.out]
          show _ = wrR (writeP (s2 :: ll.drop i1) out known)
          rw [writeP_cons, if_pos ⟨h1.1, h1.2, HAL.out⟩, ← spellT_join h1.1, HTT.out]
         have HOL : Hid ((out ++ (tt ++ [10])).length ≤ i1 * 67108864) := by show _ ≤ _; rw [List.length_append, List.length_append]; have := HMS.out; have := HNT.out; have := HNTB.out; have := HI1.out; simp; omega
         have HZS : Hid (zout.size ≤ 64 * 67108864) := by show _ ≤ _; rw [← HZOUT.out, ba_size]; have := HMS.out; have := HN64.out; have := HLT.out; omega
         have s1 : zout.size + nt ≤ 9223372036854775807 := by have := HZS.out; have := HNTB.out; omega
         have s2' : zout.size + nt + 1 ≤ 9223372036854775807 := by have := HZS.out; have := HNTB.out; omega
         have s3 : zout.size + zt.size ≤ 9223372036854775807 := by rw [HZN.out]; exact s1
         have s4 : ¬ (9223372036854775807 < zout.size + nt) := by omega
         have s5 : ¬ (9223372036854775807 < zout.size + nt + 1) := by omega
         have HOUT : Hid (zout ++ zt ++ ⟨#[10]⟩ = ba (out ++ (tt ++ [10]))) := by show _ = _; rw [← List.append_assoc, ba_app, ba_app, HZOUT.out, HZT.out]; rfl
         obtain ⟨eD, hD⟩ : ∃ e, (!zd2.toList.isEmpty) = e := ⟨_, rfl⟩
         have HD := Lib.hid hD
         clear hj hjn
         cases eD
         ·have HDE : Hid (s2.dst = []) := by
           show _ = _
           have h := HD.out
           rw [← HZD2.out, tl_ba] at h
           cases hd : s2.dst with
           | nil => rfl
           | cons a r => rw [hd] at h; simp at h
          have HKK2 : Hid (∀ x : Tx, x ≠ [] → kn.contains x = (s2.dst :: known).contains x) := fun x hx => by rw [HKK.out x hx, List.contains_cons, HDE.out]; have : (x == []) = false := beq_eq_false_iff_ne.2 hx; rw [this, Bool.false_or]
          go_wp2_with fail
          go_roundw
          case rel => exact ⟨i1, m, A5, c5, kn, s2.dst :: known, out ++ (tt ++ [10]), by have := HI1.out; have := HLT.out; omega, by rw [← HOUT.out], rfl, rfl, HQ7, HMORE, ⟨by have := HMS.out; have := HI1.out; omega, HOL.out⟩, HKK2⟩
          case measure => show n - (i1 : Int).toNat < n - (i : Int).toNat; have := HI1.out; have := HLT.out; simp only [Int.toNat_natCast]; omega
         ·have HKK2 : Hid (∀ x : Tx, x ≠ [] → (kn ++ [s2.dst]).contains x = (s2.dst :: known).contains x) := fun x hx => by rw [List.contains_cons, ← HKK.out x hx, List.contains_eq_mem, List.contains_eq_mem]; by_cases h1 : x = s2.dst <;> by_cases h2 : x ∈ kn <;> simp [h1, h2]
          go_wp2_with (first | (at_builtin; (have HQ11 := Lib.hid (HQ7.out.on ((Below.refl _ _).alloc (Nat.le_refl _) (.cells #[.string zd2] 9)))); refine Jp.wpList_push rfl (.tmp 96) (.tmp 99) _ rfl w.heap.size 9 1 16 (.string ⟨#[]⟩) Tryz.underlying34 infoStr rfl (by omega) (.slice A5 m c5) m (kn.map vS) rfl HQ11.out.kno V7.heap.size 1 1 [.string zd2] 9 rfl rfl (heap_alloc_new V7 _) (by simp [Value.oneCell']) (by omega) (by have := HMS.out; have := HN64.out; have := HLT.out; unfold maxLen; omega) (by have := HMS.out; have := HN64.out; have := HLT.out; omega) HQ11.out.bel.size _ rfl ?_; intro g2 cap2 W12 ho12 hg12 hgo12 hlt12; (have HO12 := Lib.hid ho12); (have HG12 := Lib.hid hg12); (have HGO12 := Lib.hid hgo12); clear ho12 hg12 hgo12 hlt12) | fail)
          have HQ12 := Lib.hid (HQ11.out.learn (x := s2.dst) (by rw [show vS s2.dst = Value.string zd2 by rw [← HZD2.out]; rfl]; exact HO12.out) HG12.out HGO12.out)
          go_roundw
          case rel => exact ⟨i1, m + 1, some ⟨g2, 0, none⟩, cap2, kn ++ [s2.dst], s2.dst :: known, out ++ (tt ++ [10]), by have := HI1.out; have := HLT.out; omega, by rw [← HOUT.out], rfl, rfl, HQ12, HMORE, ⟨by have := HMS.out; have := HI1.out; omega, HOL.out⟩, HKK2⟩
          case measure => show n - (i1 : Int).toNat < n - (i : Int).toNat; have := HI1.out; have := HLT.out; simp only [Int.toNat_natCast]; omega
  ·have hin : i = n := by omega
   have d0 : decide ((i : Int) < (n : Int)) = false := decide_eq_false (by omega)
   have e0 : decide (i < n) = false := decide_eq_false hlt
   have HR2 : Hid (wrR (some out) = res) := by
    show _ = _
    rw [← HREM.out, List.drop_of_length_le (by rw [← HLL.out, List.length_map, HLN.out]; omega)]
    rfl
   have HZS : Hid (zout.size = out.length) := by show _ = _; rw [← hzout]; rfl
   clear hi hlt hin hzout
   by_cases hbig : 8192 < zout.size
   ·have g0 : decide ((zout.size : Int) > 8192) = true := decide_eq_true (by omega)
    have g1 : decide ((8192 : Int) < (zout.size : Int)) = true := decide_eq_true (by omega)
    have g2 : decide (8192 < zout.size) = true := decide_eq_true hbig
    have HE : Hid (res = ([], 3)) := by show _ = _; rw [← HR2.out]; unfold wrR; simp only; rw [if_pos (by rw [← HZS.out]; exact hbig)]
    clear hbig
    go_wp2_with fail
    refine bodyPost_ret (results_tmp2 rfl _ _ _) rfl ?_
    exact ⟨by rw [HE.out]; rfl, HQ.out.bel⟩
   ·have g0 : decide ((zout.size : Int) > 8192) = false := decide_eq_false (by omega)
    have g1 : decide ((8192 : Int) < (zout.size : Int)) = false := decide_eq_false (by omega)
    have g2 : decide (8192 < zout.size) = false := decide_eq_false hbig
    have HE : Hid (res = (out, 0)) := by show _ = _; rw [← HR2.out]; unfold wrR; simp only; rw [if_neg (by rw [← HZS.out]; exact hbig)]
    clear hbig
    go_wp2_with fail
    refine bodyPost_ret (results_tmp2 rfl _ _ _) rfl ?_
    exact ⟨by rw [HE.out]; show _ = Ending.returned (.tuple #[.string (ba out), .int .i64 0]); rw [HZOUT.out]; rfl, HQ.out.bel⟩
end Go.Proofs.YtoofgblmpjndjaaGreatDoor.Scr
