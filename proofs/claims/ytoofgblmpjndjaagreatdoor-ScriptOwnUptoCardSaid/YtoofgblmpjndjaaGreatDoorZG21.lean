/-
  Texts of this claim, joined by program (Sam, Lsm, Lwk, BkA). Walks: the reference's Same. (Printed by gen_sam.py.)
-/
import Derived.Test.YtoofgblmpjndjaaGreatDoorZG3
import Derived.Test.YtoofgblmpjndjaaGreatDoorZG9
import Derived.Test.YtoofgblmpjndjaaGreatDoorZG10
import Derived.Test.YtoofgblmpjndjaaGreatDoorZG17
import Derived.Laws.Tables
import Derived.Shelf.Strings.FuncGrows
import Derived.Deep.RegionHeld3
import Derived.Test.YtoofgblmpjndjaaGreatDoorZG20
set_option linter.unusedVariables false
set_option linter.unusedSimpArgs false
namespace Go.Proofs.YtoofgblmpjndjaaGreatDoor.Scr
open Go.RowKit K Go.Lib Go.Shelf

theorem st_ne {s s2 : St} (h : s.op ≠ s2.op ∨ s.dst ≠ s2.dst ∨ s.file ≠ s2.file ∨ s.srcs ≠ s2.srcs ∨ s.args ≠ s2.args) : s ≠ s2 := by
 rintro rfl
 simp at h
theorem maps_ne {l l2 : List (Int × St)} {k : Nat} {p p2 : Int × St} (h : l[k]? = some p) (h2 : l2[k]? = some p2) (hne : p.2 ≠ p2.2) : decide (l.map (·.2) = l2.map (·.2)) = false := by
 refine decide_eq_false fun e => hne ?_
 have := congrArg (fun x => x[k]?) e
 simp only [List.getElem?_map, h, h2, Option.map_some] at this
 exact Option.some.inj this
set_option maxRecDepth 20000 in
set_option maxHeartbeats 16000000 in
theorem rsame_any {A B : Option Addr} {n c m c2 : Nat} {l l2 : List (Int × St)} (w : World) (H : TS w A n l) (H2 : TS w B m l2) :
  Calls Tryz.prog 14 #[.slice A n c, .slice B m c2] w fun e w' => e = .returned (.bool (decide (l.map (·.2) = l2.map (·.2)))) ∧ Below w.heap.size w w' := by
 obtain ⟨res, hres⟩ : ∃ b, decide (l.map (·.2) = l2.map (·.2)) = b := ⟨_, rfl⟩
 rw [hres]
 have HRES := Lib.hid hres
 have hln := H.len
 have hln2 := H2.len
 by_cases hnm : n = m
 ·subst hnm
  have q0 : ((n : Int) != (n : Int)) = false := by simp
  have HT := Lib.hid H
  have HT2 := Lib.hid H2
  have HLN := Lib.hid hln
  have HLN2 := Lib.hid hln2
  have HSZ := Lib.hid H.sz
  clear hres hln hln2 H H2
  go_enter Tryz.func14, Tryz.ntmps14
  go_wp2
  go_loopw [5] (fun s5 wx => ∃ k : Nat, k ≤ n ∧ s5 = .int .i64 (k : Int) ∧ Hid ((l.map (·.2)).take k = (l2.map (·.2)).take k) ∧ Hid (Below w.heap.size w wx)) (fun s5 _ => n - (intOf s5).toNat)
  case atStart => exact ⟨0, Nat.zero_le _, rfl, rfl, Below.refl _ _⟩
  case round =>
   obtain ⟨k, hk, rfl, HEQ, HB⟩ := hrel
   by_cases hlt : k < n
   ·have HLT := Lib.hid hlt
    obtain ⟨p, hp⟩ : ∃ p, l[k]? = some p := ⟨l[k]'(by rw [HLN.out]; exact hlt), List.getElem?_eq_getElem _⟩
    obtain ⟨p2, hp2⟩ : ∃ p, l2[k]? = some p := ⟨l2[k]'(by rw [HLN2.out]; exact hlt), List.getElem?_eq_getElem _⟩
    obtain ⟨b, o, rfl, ⟨As, ns, cs, Aa, na, ca, h0, h1, h2, h3, h4, h5, hss, hsi⟩, hbl⟩ := (HT.out.below HB.out).at' k p hp
    obtain ⟨b2, o2, rfl, ⟨Bs, ns2, cs2, Ba, na2, ca2, g0, g1, g2, g3, g4, g5, gss, gsi⟩, gbl⟩ := (HT2.out.below HB.out).at' k p2 hp2
    have d0 : decide ((k : Int) < (n : Int)) = true := decide_eq_true (by omega)
    have e0 : decide (k < n) = true := decide_eq_true hlt
    have l0 : (k : Int) < n := by omega
    have z0 : (0 : Int) ≤ k := by omega
    have HU : Hid (wrap64 ((k : Int) + 1) = ((k + 1 : Nat) : Int)) := by show _ = _; have := HSZ.out; rw [IntWalk.wrap64_in _ (by omega)]; rfl
    have HP := Lib.hid hp
    have HP2 := Lib.hid hp2
    have HNE : Hid (p.2 ≠ p2.2 → res = false) := fun h => by rw [← HRES.out]; exact maps_ne HP.out HP2.out h
    have HC4 : Hid (∀ V, Below wr.heap.size wr V → Calls Tryz.prog 16 #[.slice As ns cs, .slice Bs ns2 cs2] V (EqP V (decide (p.2.srcs = p2.2.srcs)))) := fun V hV => rsames_any V (hss.below hV) (gss.below hV)
    have HC5 : Hid (∀ V, Below wr.heap.size wr V → Calls Tryz.prog 19 #[.slice Aa na ca, .slice Ba na2 ca2] V (EqP V (decide (p.2.args = p2.2.args)))) := fun V hV => rsamei_any V (hsi.below hV (Nat.le_refl _)) (gsi.below hV (Nat.le_refl _))
    have he1 : ((ba p.2.op).toList == (ba p2.2.op).toList) = decide (p.2.op = p2.2.op) := by rw [tl_ba, tl_ba]; by_cases h : p.2.op = p2.2.op <;> simp [h]
    have he2 : ((ba p.2.dst).toList == (ba p2.2.dst).toList) = decide (p.2.dst = p2.2.dst) := by rw [tl_ba, tl_ba]; by_cases h : p.2.dst = p2.2.dst <;> simp [h]
    have he3 : ((ba p.2.file).toList == (ba p2.2.file).toList) = decide (p.2.file = p2.2.file) := by rw [tl_ba, tl_ba]; by_cases h : p.2.file = p2.2.file <;> simp [h]
    obtain ⟨zo, hzo⟩ : ∃ z, ba p.2.op = z := ⟨_, rfl⟩
    obtain ⟨zd, hzd⟩ : ∃ z, ba p.2.dst = z := ⟨_, rfl⟩
    obtain ⟨zf, hzf⟩ : ∃ z, ba p.2.file = z := ⟨_, rfl⟩
    obtain ⟨zo2, hzo2⟩ : ∃ z, ba p2.2.op = z := ⟨_, rfl⟩
    obtain ⟨zd2, hzd2⟩ : ∃ z, ba p2.2.dst = z := ⟨_, rfl⟩
    obtain ⟨zf2, hzf2⟩ : ∃ z, ba p2.2.file = z := ⟨_, rfl⟩
    rw [hzo] at h1 he1
    rw [hzd] at h2 he2
    rw [hzf] at h4 he3
    rw [hzo2] at g1 he1
    rw [hzd2] at g2 he2
    rw [hzf2] at g4 he3
    have HBL := Lib.hid hbl
    have GBL := Lib.hid gbl
    clear hp hp2 hss hsi gss gsi hlt hk hzo hzd hzf hzo2 hzd2 hzf2 hbl gbl
    go_upto_region 6 with (fail)
    go_cut [6, 7] from 19 to 26 (fun s6 s7 wx => ∃ X Y : Nat, s6 = .pointer (some ⟨X, 0, none⟩) ∧ s7 = .pointer (some ⟨Y, 0, none⟩) ∧ Hid (wx.heap[X]? = some (.cells #[.int .i64 p.1, .string zo, .string zd, .slice As ns cs, .string zf, .slice Aa na ca] 37 (0, 0))) ∧ Hid (wx.heap[Y]? = some (.cells #[.int .i64 p2.1, .string zo2, .string zd2, .slice Bs ns2 cs2, .string zf2, .slice Ba na2 ca2] 37 (0, 0))) ∧ Hid (Below wr.heap.size wr wx))
    case first =>
     have HSF : Hid (∀ V, Below wr.heap.size wr V → (fun V => (V.cell? ⟨b, o + k * 6, none⟩ = some (.int .i64 p.1) ∧ V.cell? ⟨b, o + k * 6 + 1, none⟩ = some (.string zo) ∧ V.cell? ⟨b, o + k * 6 + 2, none⟩ = some (.string zd) ∧ V.cell? ⟨b, o + k * 6 + 3, none⟩ = some (.slice As ns cs) ∧ V.cell? ⟨b, o + k * 6 + 4, none⟩ = some (.string zf) ∧ V.cell? ⟨b, o + k * 6 + 5, none⟩ = some (.slice Aa na ca)) ∧ V.cell? ⟨b2, o2 + k * 6, none⟩ = some (.int .i64 p2.1) ∧ V.cell? ⟨b2, o2 + k * 6 + 1, none⟩ = some (.string zo2) ∧ V.cell? ⟨b2, o2 + k * 6 + 2, none⟩ = some (.string zd2) ∧ V.cell? ⟨b2, o2 + k * 6 + 3, none⟩ = some (.slice Bs ns2 cs2) ∧ V.cell? ⟨b2, o2 + k * 6 + 4, none⟩ = some (.string zf2) ∧ V.cell? ⟨b2, o2 + k * 6 + 5, none⟩ = some (.slice Ba na2 ca2)) V) := by
      show ∀ _, _ → _
      intro V hV
      exact ⟨⟨(hV.cell (p := ⟨b, o + k * 6, none⟩) HBL.out).trans h0, (hV.cell (p := ⟨b, o + k * 6 + 1, none⟩) HBL.out).trans h1, (hV.cell (p := ⟨b, o + k * 6 + 2, none⟩) HBL.out).trans h2, (hV.cell (p := ⟨b, o + k * 6 + 3, none⟩) HBL.out).trans h3, (hV.cell (p := ⟨b, o + k * 6 + 4, none⟩) HBL.out).trans h4, (hV.cell (p := ⟨b, o + k * 6 + 5, none⟩) HBL.out).trans h5⟩, (hV.cell (p := ⟨b2, o2 + k * 6, none⟩) GBL.out).trans g0, (hV.cell (p := ⟨b2, o2 + k * 6 + 1, none⟩) GBL.out).trans g1, (hV.cell (p := ⟨b2, o2 + k * 6 + 2, none⟩) GBL.out).trans g2, (hV.cell (p := ⟨b2, o2 + k * 6 + 3, none⟩) GBL.out).trans g3, (hV.cell (p := ⟨b2, o2 + k * 6 + 4, none⟩) GBL.out).trans g4, (hV.cell (p := ⟨b2, o2 + k * 6 + 5, none⟩) GBL.out).trans g5⟩
     clear h0 h1 h2 h3 h4 h5 g0 g1 g2 g3 g4 g5
     refine wp_region_held_drew (S := fun V => (V.cell? ⟨b, o + k * 6, none⟩ = some (.int .i64 p.1) ∧ V.cell? ⟨b, o + k * 6 + 1, none⟩ = some (.string zo) ∧ V.cell? ⟨b, o + k * 6 + 2, none⟩ = some (.string zd) ∧ V.cell? ⟨b, o + k * 6 + 3, none⟩ = some (.slice As ns cs) ∧ V.cell? ⟨b, o + k * 6 + 4, none⟩ = some (.string zf) ∧ V.cell? ⟨b, o + k * 6 + 5, none⟩ = some (.slice Aa na ca)) ∧ V.cell? ⟨b2, o2 + k * 6, none⟩ = some (.int .i64 p2.1) ∧ V.cell? ⟨b2, o2 + k * 6 + 1, none⟩ = some (.string zo2) ∧ V.cell? ⟨b2, o2 + k * 6 + 2, none⟩ = some (.string zd2) ∧ V.cell? ⟨b2, o2 + k * 6 + 3, none⟩ = some (.slice Bs ns2 cs2) ∧ V.cell? ⟨b2, o2 + k * 6 + 4, none⟩ = some (.string zf2) ∧ V.cell? ⟨b2, o2 + k * 6 + 5, none⟩ = some (.slice Ba na2 ca2)) (by kernel_rfl) (HSF.out _ (Below.refl _ _).drew) (fun hHeld => ?_)
     obtain ⟨V0, hV0⟩ : ∃ x, wr.drew = x := ⟨_, rfl⟩
     have HVB : Hid (Below wr.heap.size wr V0) := by rw [← hV0]; exact (Below.refl _ _).drew
     rw [hV0] at hHeld ⊢
     clear hV0
     refine wpAnyH_take (i := 0) (v := .slice (some ⟨b, o, none⟩) n c) rfl (by kernel_rfl) (by kernel_rfl) (by kernel_rfl) (fun _ _ _ h => h) (Or.inl ⟨by rfl, ?_⟩) hHeld ?_
     ·intro wz hSw; obtain ⟨⟨s0, s1, s2, s3, s4, s5⟩, r0, r1, r2, r3, r4, r5⟩ := hSw; go_simp
     try simp only [Act.put, List.getElem_toArray, List.getElem_cons_succ, List.getElem_cons_zero, List.setIfInBounds_toArray, List.set_cons_zero, List.set_cons_succ]
     refine wpAnyH_take (i := 1) (v := .int .i64 (k : Int)) rfl (by kernel_rfl) (by kernel_rfl) (by kernel_rfl) (fun _ _ _ h => h) (Or.inl ⟨by rfl, ?_⟩) hHeld ?_
     ·intro wz hSw; obtain ⟨⟨s0, s1, s2, s3, s4, s5⟩, r0, r1, r2, r3, r4, r5⟩ := hSw; go_simp
     try simp only [Act.put, List.getElem_toArray, List.getElem_cons_succ, List.getElem_cons_zero, List.setIfInBounds_toArray, List.set_cons_zero, List.set_cons_succ]
     refine wpAnyH_take (i := 2) (v := .pointer (some ⟨b, o + k * 6, none⟩)) rfl (by kernel_rfl) (by kernel_rfl) (by kernel_rfl) (fun _ _ _ h => h) (Or.inl ⟨by rfl, ?_⟩) hHeld ?_
     ·intro wz hSw; obtain ⟨⟨s0, s1, s2, s3, s4, s5⟩, r0, r1, r2, r3, r4, r5⟩ := hSw; go_simp
     try simp only [Act.put, List.getElem_toArray, List.getElem_cons_succ, List.getElem_cons_zero, List.setIfInBounds_toArray, List.set_cons_zero, List.set_cons_succ]
     refine wpAnyH_take (i := 3) (v := .agg #[.int .i64 p.1, .string zo, .string zd, .slice As ns cs, .string zf, .slice Aa na ca]) rfl (by kernel_rfl) (by kernel_rfl) (by kernel_rfl) (fun _ _ _ h => h) (Or.inl ⟨by rfl, ?_⟩) hHeld ?_
     ·intro wz hSw; obtain ⟨⟨s0, s1, s2, s3, s4, s5⟩, r0, r1, r2, r3, r4, r5⟩ := hSw; go_simp
     try simp only [Act.put, List.getElem_toArray, List.getElem_cons_succ, List.getElem_cons_zero, List.setIfInBounds_toArray, List.set_cons_zero, List.set_cons_succ]
     refine wpAnyH_take (i := 4) (v := .slice (some ⟨b2, o2, none⟩) n c2) rfl (by kernel_rfl) (by kernel_rfl) (by kernel_rfl) (fun _ _ _ h => h) (Or.inl ⟨by rfl, ?_⟩) hHeld ?_
     ·intro wz hSw; obtain ⟨⟨s0, s1, s2, s3, s4, s5⟩, r0, r1, r2, r3, r4, r5⟩ := hSw; go_simp
     try simp only [Act.put, List.getElem_toArray, List.getElem_cons_succ, List.getElem_cons_zero, List.setIfInBounds_toArray, List.set_cons_zero, List.set_cons_succ]
     refine wpAnyH_take (i := 5) (v := .int .i64 (k : Int)) rfl (by kernel_rfl) (by kernel_rfl) (by kernel_rfl) (fun _ _ _ h => h) (Or.inl ⟨by rfl, ?_⟩) hHeld ?_
     ·intro wz hSw; obtain ⟨⟨s0, s1, s2, s3, s4, s5⟩, r0, r1, r2, r3, r4, r5⟩ := hSw; go_simp
     try simp only [Act.put, List.getElem_toArray, List.getElem_cons_succ, List.getElem_cons_zero, List.setIfInBounds_toArray, List.set_cons_zero, List.set_cons_succ]
     refine wpAnyH_take (i := 6) (v := .pointer (some ⟨b2, o2 + k * 6, none⟩)) rfl (by kernel_rfl) (by kernel_rfl) (by kernel_rfl) (fun _ _ _ h => h) (Or.inl ⟨by rfl, ?_⟩) hHeld ?_
     ·intro wz hSw; obtain ⟨⟨s0, s1, s2, s3, s4, s5⟩, r0, r1, r2, r3, r4, r5⟩ := hSw; go_simp
     try simp only [Act.put, List.getElem_toArray, List.getElem_cons_succ, List.getElem_cons_zero, List.setIfInBounds_toArray, List.set_cons_zero, List.set_cons_succ]
     refine wpAnyH_take (i := 7) (v := .agg #[.int .i64 p2.1, .string zo2, .string zd2, .slice Bs ns2 cs2, .string zf2, .slice Ba na2 ca2]) rfl (by kernel_rfl) (by kernel_rfl) (by kernel_rfl) (fun _ _ _ h => h) (Or.inl ⟨by rfl, ?_⟩) hHeld ?_
     ·intro wz hSw; obtain ⟨⟨s0, s1, s2, s3, s4, s5⟩, r0, r1, r2, r3, r4, r5⟩ := hSw; go_simp
     try simp only [Act.put, List.getElem_toArray, List.getElem_cons_succ, List.getElem_cons_zero, List.setIfInBounds_toArray, List.set_cons_zero, List.set_cons_succ]
     refine wpAnyH_ready (rs := [8, 9]) (by kernel_rfl) (by simp) ?_
     refine AllReadyH.cons rfl (fun K hK => ?_) (AllReadyH.cons rfl (fun K hK => ?_) AllReadyH.nil)
     ·go_simp
      obtain ⟨V1, hV⟩ : ∃ x, V0.alloc (.cells #[.int .i64 0, .string ⟨#[]⟩, .string ⟨#[]⟩, .slice none 0 0, .string ⟨#[]⟩, .slice none 0 0] 37) = x := ⟨_, rfl⟩
      have hn : V1.heap[V0.heap.size]? = some (.cells st0 37 (0, 0)) := by rw [← hV]; exact heap_alloc_new V0 _
      have hb : Below V0.heap.size V0 V1 := by rw [← hV]; exact (Below.refl _ _).alloc (Nat.le_refl _) _
      have HGX : Hid (wr.heap.size ≤ V0.heap.size) := HVB.out.size
      have HVB := Lib.hid (HVB.out.trans (hb.mono HVB.out.size))
      obtain ⟨X, hg⟩ : ∃ g, V0.heap.size = g := ⟨_, rfl⟩
      rw [hg] at hn HGX ⊢
      have HX := Lib.hid hn
      try rw [hV]
      clear hV hg hn hb
      refine hK.out _ _ (HSF.out _ HVB.out) (fun hHeld => ?_)
      clear hK K
      try simp only [Act.put, List.getElem_toArray, List.getElem_cons_succ, List.getElem_cons_zero, List.setIfInBounds_toArray, List.set_cons_zero, List.set_cons_succ]
      refine wpAnyH_ready (rs := [9]) (by kernel_rfl) (by simp) ?_
      refine AllReadyH.cons rfl (fun K hK => ?_) AllReadyH.nil
      go_simp
      obtain ⟨V2, hV⟩ : ∃ x, V1.alloc (.cells #[.int .i64 0, .string ⟨#[]⟩, .string ⟨#[]⟩, .slice none 0 0, .string ⟨#[]⟩, .slice none 0 0] 37) = x := ⟨_, rfl⟩
      have hn : V2.heap[V1.heap.size]? = some (.cells st0 37 (0, 0)) := by rw [← hV]; exact heap_alloc_new V1 _
      have hb : Below V1.heap.size V1 V2 := by rw [← hV]; exact (Below.refl _ _).alloc (Nat.le_refl _) _
      have HGY : Hid (wr.heap.size ≤ V1.heap.size) := HVB.out.size
      have hne : X ≠ V1.heap.size := by have := (Array.getElem?_eq_some_iff.1 HX.out).1; omega
      have HX := Lib.hid ((hb.block _ (Array.getElem?_eq_some_iff.1 HX.out).1).trans HX.out)
      have HVB := Lib.hid (HVB.out.trans (hb.mono HVB.out.size))
      obtain ⟨Y, hg⟩ : ∃ g, V1.heap.size = g := ⟨_, rfl⟩
      rw [hg] at hn HGY hne ⊢
      have HNE : Hid (X ≠ Y) := by show _ ≠ _; first | exact hne | exact hne.symm
      have HY := Lib.hid hn
      try rw [hV]
      clear hV hg hn hb hne
      refine hK.out _ _ (HSF.out _ HVB.out) (fun hHeld => ?_)
      clear hK K
      try simp only [Act.put, List.getElem_toArray, List.getElem_cons_succ, List.getElem_cons_zero, List.setIfInBounds_toArray, List.set_cons_zero, List.set_cons_succ]
      refine wpAnyH_ready (rs := [10]) (by kernel_rfl) (by simp) ?_
      refine AllReadyH.cons rfl (fun K hK => ?_) AllReadyH.nil
      rw [if_pos (by rfl)]
      refine wp_store_row 37 (.tmp 6) (.tmp 22) rfl X #[.int .i64 p.1, .string zo, .string zd, .slice As ns cs, .string zf, .slice Aa na ca] rfl rfl 37 st0 HX.out infoSt rfl (by simp [Value.oneCell']) ?_
      have hn : (V2.setRow X #[.int .i64 p.1, .string zo, .string zd, .slice As ns cs, .string zf, .slice Aa na ca]).heap[X]? = some (.cells #[.int .i64 p.1, .string zo, .string zd, .slice As ns cs, .string zf, .slice Aa na ca] 37 (0, 0)) := setRow_heap _ _ _ _ _ _ HX.out
      have ho : (V2.setRow X #[.int .i64 p.1, .string zo, .string zd, .slice As ns cs, .string zf, .slice Aa na ca]).heap[Y]? = V2.heap[Y]? := setRow_other _ _ _ _ (by have := HNE.out; omega)
      have hb : Below wr.heap.size V2 (V2.setRow X #[.int .i64 p.1, .string zo, .string zd, .slice As ns cs, .string zf, .slice Aa na ca]) := ⟨rfl, rfl, rfl, by simp [World.setRow], fun i hi => setRow_other _ _ _ _ (by have := HGX.out; omega)⟩
      obtain ⟨V3, hV⟩ : ∃ x, V2.setRow X #[.int .i64 p.1, .string zo, .string zd, .slice As ns cs, .string zf, .slice Aa na ca] = x := ⟨_, rfl⟩
      rw [hV] at hn ho hb ⊢
      have HX := Lib.hid hn
      have HY := Lib.hid (ho.trans HY.out)
      have HVB := Lib.hid (HVB.out.trans hb)
      clear hV hn ho hb
      refine hK.out _ _ (HSF.out _ HVB.out) (fun hHeld => ?_)
      clear hK K
      try simp only [Act.put, List.getElem_toArray, List.getElem_cons_succ, List.getElem_cons_zero, List.setIfInBounds_toArray, List.set_cons_zero, List.set_cons_succ]
      refine wpAnyH_ready (rs := [11]) (by kernel_rfl) (by simp) ?_
      refine AllReadyH.cons rfl (fun K hK => ?_) AllReadyH.nil
      rw [if_pos (by rfl)]
      refine wp_store_row 37 (.tmp 7) (.tmp 26) rfl Y #[.int .i64 p2.1, .string zo2, .string zd2, .slice Bs ns2 cs2, .string zf2, .slice Ba na2 ca2] rfl rfl 37 st0 HY.out infoSt rfl (by simp [Value.oneCell']) ?_
      have hn : (V3.setRow Y #[.int .i64 p2.1, .string zo2, .string zd2, .slice Bs ns2 cs2, .string zf2, .slice Ba na2 ca2]).heap[Y]? = some (.cells #[.int .i64 p2.1, .string zo2, .string zd2, .slice Bs ns2 cs2, .string zf2, .slice Ba na2 ca2] 37 (0, 0)) := setRow_heap _ _ _ _ _ _ HY.out
      have ho : (V3.setRow Y #[.int .i64 p2.1, .string zo2, .string zd2, .slice Bs ns2 cs2, .string zf2, .slice Ba na2 ca2]).heap[X]? = V3.heap[X]? := setRow_other _ _ _ _ (by have := HNE.out; omega)
      have hb : Below wr.heap.size V3 (V3.setRow Y #[.int .i64 p2.1, .string zo2, .string zd2, .slice Bs ns2 cs2, .string zf2, .slice Ba na2 ca2]) := ⟨rfl, rfl, rfl, by simp [World.setRow], fun i hi => setRow_other _ _ _ _ (by have := HGY.out; omega)⟩
      obtain ⟨V4, hV⟩ : ∃ x, V3.setRow Y #[.int .i64 p2.1, .string zo2, .string zd2, .slice Bs ns2 cs2, .string zf2, .slice Ba na2 ca2] = x := ⟨_, rfl⟩
      rw [hV] at hn ho hb ⊢
      have HY := Lib.hid hn
      have HX := Lib.hid (ho.trans HX.out)
      have HVB := Lib.hid (HVB.out.trans hb)
      clear hV hn ho hb
      refine hK.out _ _ (HSF.out _ HVB.out) (fun hHeld => ?_)
      clear hK K
      try simp only [Act.put, List.getElem_toArray, List.getElem_cons_succ, List.getElem_cons_zero, List.setIfInBounds_toArray, List.set_cons_zero, List.set_cons_succ]
      refine wpAnyH_done (by kernel_rfl) ?_ _
      try dsimp only
      go_wp2_with fail
      go_meet
      exact ⟨X, Y, rfl, rfl, HX, HY, HVB⟩
     ·go_simp
      obtain ⟨V1, hV⟩ : ∃ x, V0.alloc (.cells #[.int .i64 0, .string ⟨#[]⟩, .string ⟨#[]⟩, .slice none 0 0, .string ⟨#[]⟩, .slice none 0 0] 37) = x := ⟨_, rfl⟩
      have hn : V1.heap[V0.heap.size]? = some (.cells st0 37 (0, 0)) := by rw [← hV]; exact heap_alloc_new V0 _
      have hb : Below V0.heap.size V0 V1 := by rw [← hV]; exact (Below.refl _ _).alloc (Nat.le_refl _) _
      have HGY : Hid (wr.heap.size ≤ V0.heap.size) := HVB.out.size
      have HVB := Lib.hid (HVB.out.trans (hb.mono HVB.out.size))
      obtain ⟨Y, hg⟩ : ∃ g, V0.heap.size = g := ⟨_, rfl⟩
      rw [hg] at hn HGY ⊢
      have HY := Lib.hid hn
      try rw [hV]
      clear hV hg hn hb
      refine hK.out _ _ (HSF.out _ HVB.out) (fun hHeld => ?_)
      clear hK K
      try simp only [Act.put, List.getElem_toArray, List.getElem_cons_succ, List.getElem_cons_zero, List.setIfInBounds_toArray, List.set_cons_zero, List.set_cons_succ]
      refine wpAnyH_ready (rs := [8]) (by kernel_rfl) (by simp) ?_
      refine AllReadyH.cons rfl (fun K hK => ?_) AllReadyH.nil
      go_simp
      obtain ⟨V2, hV⟩ : ∃ x, V1.alloc (.cells #[.int .i64 0, .string ⟨#[]⟩, .string ⟨#[]⟩, .slice none 0 0, .string ⟨#[]⟩, .slice none 0 0] 37) = x := ⟨_, rfl⟩
      have hn : V2.heap[V1.heap.size]? = some (.cells st0 37 (0, 0)) := by rw [← hV]; exact heap_alloc_new V1 _
      have hb : Below V1.heap.size V1 V2 := by rw [← hV]; exact (Below.refl _ _).alloc (Nat.le_refl _) _
      have HGX : Hid (wr.heap.size ≤ V1.heap.size) := HVB.out.size
      have hne : Y ≠ V1.heap.size := by have := (Array.getElem?_eq_some_iff.1 HY.out).1; omega
      have HY := Lib.hid ((hb.block _ (Array.getElem?_eq_some_iff.1 HY.out).1).trans HY.out)
      have HVB := Lib.hid (HVB.out.trans (hb.mono HVB.out.size))
      obtain ⟨X, hg⟩ : ∃ g, V1.heap.size = g := ⟨_, rfl⟩
      rw [hg] at hn HGX hne ⊢
      have HNE : Hid (X ≠ Y) := by show _ ≠ _; first | exact hne | exact hne.symm
      have HX := Lib.hid hn
      try rw [hV]
      clear hV hg hn hb hne
      refine hK.out _ _ (HSF.out _ HVB.out) (fun hHeld => ?_)
      clear hK K
      try simp only [Act.put, List.getElem_toArray, List.getElem_cons_succ, List.getElem_cons_zero, List.setIfInBounds_toArray, List.set_cons_zero, List.set_cons_succ]
      refine wpAnyH_ready (rs := [10]) (by kernel_rfl) (by simp) ?_
      refine AllReadyH.cons rfl (fun K hK => ?_) AllReadyH.nil
      rw [if_pos (by rfl)]
      refine wp_store_row 37 (.tmp 6) (.tmp 22) rfl X #[.int .i64 p.1, .string zo, .string zd, .slice As ns cs, .string zf, .slice Aa na ca] rfl rfl 37 st0 HX.out infoSt rfl (by simp [Value.oneCell']) ?_
      have hn : (V2.setRow X #[.int .i64 p.1, .string zo, .string zd, .slice As ns cs, .string zf, .slice Aa na ca]).heap[X]? = some (.cells #[.int .i64 p.1, .string zo, .string zd, .slice As ns cs, .string zf, .slice Aa na ca] 37 (0, 0)) := setRow_heap _ _ _ _ _ _ HX.out
      have ho : (V2.setRow X #[.int .i64 p.1, .string zo, .string zd, .slice As ns cs, .string zf, .slice Aa na ca]).heap[Y]? = V2.heap[Y]? := setRow_other _ _ _ _ (by have := HNE.out; omega)
      have hb : Below wr.heap.size V2 (V2.setRow X #[.int .i64 p.1, .string zo, .string zd, .slice As ns cs, .string zf, .slice Aa na ca]) := ⟨rfl, rfl, rfl, by simp [World.setRow], fun i hi => setRow_other _ _ _ _ (by have := HGX.out; omega)⟩
      obtain ⟨V3, hV⟩ : ∃ x, V2.setRow X #[.int .i64 p.1, .string zo, .string zd, .slice As ns cs, .string zf, .slice Aa na ca] = x := ⟨_, rfl⟩
      rw [hV] at hn ho hb ⊢
      have HX := Lib.hid hn
      have HY := Lib.hid (ho.trans HY.out)
      have HVB := Lib.hid (HVB.out.trans hb)
      clear hV hn ho hb
      refine hK.out _ _ (HSF.out _ HVB.out) (fun hHeld => ?_)
      clear hK K
      try simp only [Act.put, List.getElem_toArray, List.getElem_cons_succ, List.getElem_cons_zero, List.setIfInBounds_toArray, List.set_cons_zero, List.set_cons_succ]
      refine wpAnyH_ready (rs := [11]) (by kernel_rfl) (by simp) ?_
      refine AllReadyH.cons rfl (fun K hK => ?_) AllReadyH.nil
      rw [if_pos (by rfl)]
      refine wp_store_row 37 (.tmp 7) (.tmp 26) rfl Y #[.int .i64 p2.1, .string zo2, .string zd2, .slice Bs ns2 cs2, .string zf2, .slice Ba na2 ca2] rfl rfl 37 st0 HY.out infoSt rfl (by simp [Value.oneCell']) ?_
      have hn : (V3.setRow Y #[.int .i64 p2.1, .string zo2, .string zd2, .slice Bs ns2 cs2, .string zf2, .slice Ba na2 ca2]).heap[Y]? = some (.cells #[.int .i64 p2.1, .string zo2, .string zd2, .slice Bs ns2 cs2, .string zf2, .slice Ba na2 ca2] 37 (0, 0)) := setRow_heap _ _ _ _ _ _ HY.out
      have ho : (V3.setRow Y #[.int .i64 p2.1, .string zo2, .string zd2, .slice Bs ns2 cs2, .string zf2, .slice Ba na2 ca2]).heap[X]? = V3.heap[X]? := setRow_other _ _ _ _ (by have := HNE.out; omega)
      have hb : Below wr.heap.size V3 (V3.setRow Y #[.int .i64 p2.1, .string zo2, .string zd2, .slice Bs ns2 cs2, .string zf2, .slice Ba na2 ca2]) := ⟨rfl, rfl, rfl, by simp [World.setRow], fun i hi => setRow_other _ _ _ _ (by have := HGY.out; omega)⟩
      obtain ⟨V4, hV⟩ : ∃ x, V3.setRow Y #[.int .i64 p2.1, .string zo2, .string zd2, .slice Bs ns2 cs2, .string zf2, .slice Ba na2 ca2] = x := ⟨_, rfl⟩
      rw [hV] at hn ho hb ⊢
      have HY := Lib.hid hn
      have HX := Lib.hid (ho.trans HX.out)
      have HVB := Lib.hid (HVB.out.trans hb)
      clear hV hn ho hb
      refine hK.out _ _ (HSF.out _ HVB.out) (fun hHeld => ?_)
      clear hK K
      try simp only [Act.put, List.getElem_toArray, List.getElem_cons_succ, List.getElem_cons_zero, List.setIfInBounds_toArray, List.set_cons_zero, List.set_cons_succ]
      refine wpAnyH_done (by kernel_rfl) ?_ _
      try dsimp only
      go_wp2_with fail
      go_meet
      exact ⟨X, Y, rfl, rfl, HX, HY, HVB⟩
    case rest =>
     obtain ⟨X, Y, rfl, rfl, HX, HY, HBW⟩ := hcut
     have x1 : wc.cell? ⟨X, 1, none⟩ = some (.string zo) := Ard.row_cell HX.out 1
     have x2 : wc.cell? ⟨X, 2, none⟩ = some (.string zd) := Ard.row_cell HX.out 2
     have x3 : wc.cell? ⟨X, 3, none⟩ = some (.slice As ns cs) := Ard.row_cell HX.out 3
     have x4 : wc.cell? ⟨X, 4, none⟩ = some (.string zf) := Ard.row_cell HX.out 4
     have y1 : wc.cell? ⟨Y, 1, none⟩ = some (.string zo2) := Ard.row_cell HY.out 1
     have y2 : wc.cell? ⟨Y, 2, none⟩ = some (.string zd2) := Ard.row_cell HY.out 2
     have y3 : wc.cell? ⟨Y, 3, none⟩ = some (.slice Bs ns2 cs2) := Ard.row_cell HY.out 3
     have y4 : wc.cell? ⟨Y, 4, none⟩ = some (.string zf2) := Ard.row_cell HY.out 4
     have HBC : Hid (Below w.heap.size w wc) := HB.out.trans (HBW.out.mono HB.out.size)
     clear h0 h1 h2 h3 h4 h5 g0 g1 g2 g3 g4 g5
     by_cases c1 : ¬ p.2.op = p2.2.op
     ·rw [decide_eq_false c1] at he1
      have HE : Hid (res = false) := HNE.out (st_ne (.inl c1))
      clear c1
      go_wp2_with fail
      go_ret
      exact ⟨by rw [HE.out]; rfl, HBC.out⟩
     replace c1 := Decidable.not_not.1 c1
     rw [decide_eq_true c1] at he1
     by_cases c2' : ¬ p.2.dst = p2.2.dst
     ·rw [decide_eq_false c2'] at he2
      have HE : Hid (res = false) := HNE.out (st_ne (.inr (.inl c2')))
      clear c1 c2'
      go_wp2_with fail
      go_ret
      exact ⟨by rw [HE.out]; rfl, HBC.out⟩
     replace c2' := Decidable.not_not.1 c2'
     rw [decide_eq_true c2'] at he2
     by_cases c3 : ¬ p.2.file = p2.2.file
     ·rw [decide_eq_false c3] at he3
      have HE : Hid (res = false) := HNE.out (st_ne (.inr (.inr (.inl c3))))
      clear c1 c2' c3
      go_wp2_with fail
      go_ret
      exact ⟨by rw [HE.out]; rfl, HBC.out⟩
     replace c3 := Decidable.not_not.1 c3
     rw [decide_eq_true c3] at he3
     have HD4 := Lib.hid (HC4.out wc HBW.out)
     obtain ⟨E4, hE4⟩ : ∃ b, decide (p.2.srcs = p2.2.srcs) = b := ⟨_, rfl⟩
     obtain ⟨E5, hE5⟩ : ∃ b, decide (p.2.args = p2.2.args) = b := ⟨_, rfl⟩
     rw [hE4] at HD4
     rw [hE5] at HC5
     have HALL : Hid (E4 = true → E5 = true → p.2 = p2.2) := fun k4 k5 => by
      rw [k4] at hE4
      rw [k5] at hE5
      have k4 := of_decide_eq_true hE4
      have k5 := of_decide_eq_true hE5
      cases hx : p.2
      cases hy : p2.2
      rw [hx, hy] at c1 c2' c3 k4 k5
      simp only at c1 c2' c3 k4 k5
      rw [c1, c2', c3, k4, k5]
     have HN4 : Hid (E4 = false → res = false) := fun k4 => HNE.out (st_ne (.inr (.inr (.inr (.inl (of_decide_eq_false (hE4.trans k4)))))))
     have HN5 : Hid (E5 = false → res = false) := fun k5 => HNE.out (st_ne (.inr (.inr (.inr (.inr (of_decide_eq_false (hE5.trans k5)))))))
     clear hE4 hE5 c1 c2' c3
     cases E4 with
     | false =>
      have HE : Hid (res = false) := HN4.out rfl
      clear HN4 HN5 HALL
      go_wp2_with (first | (go_at_call 16; refine HD4.out.mono ?_; rintro e V4 ⟨rfl, q4, hv4⟩; (have hb4 : Below wc.heap.size wc V4 := (by rw [← hv4]; exact below_drewNg wc q4)); (have HB4 := Lib.hid (HBC.out.trans (hb4.mono HBC.out.size))); (have hxx := (hb4.block _ (Array.getElem?_eq_some_iff.1 HX.out).1).trans HX.out); (have hyy := (hb4.block _ (Array.getElem?_eq_some_iff.1 HY.out).1).trans HY.out); (have x5 : V4.cell? ⟨X, 5, none⟩ = some (.slice Aa na ca) := Ard.row_cell hxx 5); (have y5 : V4.cell? ⟨Y, 5, none⟩ = some (.slice Ba na2 ca2) := Ard.row_cell hyy 5); (have HD5 := Lib.hid (HC5.out V4 (HBW.out.trans (hb4.mono HBW.out.size)))); clear hb4 hv4 hxx hyy) | fail)
      go_ret
      exact ⟨by rw [HE.out]; rfl, HB4.out⟩
     | true =>
      cases E5 with
      | false =>
       have HE : Hid (res = false) := HN5.out rfl
       clear HN4 HN5 HALL
       go_wp2_with (first | (go_at_call 16; refine HD4.out.mono ?_; rintro e V4 ⟨rfl, q4, hv4⟩; (have hb4 : Below wc.heap.size wc V4 := (by rw [← hv4]; exact below_drewNg wc q4)); (have HB4 := Lib.hid (HBC.out.trans (hb4.mono HBC.out.size))); (have hxx := (hb4.block _ (Array.getElem?_eq_some_iff.1 HX.out).1).trans HX.out); (have hyy := (hb4.block _ (Array.getElem?_eq_some_iff.1 HY.out).1).trans HY.out); (have x5 : V4.cell? ⟨X, 5, none⟩ = some (.slice Aa na ca) := Ard.row_cell hxx 5); (have y5 : V4.cell? ⟨Y, 5, none⟩ = some (.slice Ba na2 ca2) := Ard.row_cell hyy 5); (have HD5 := Lib.hid (HC5.out V4 (HBW.out.trans (hb4.mono HBW.out.size)))); clear hb4 hv4 hxx hyy) | (go_at_call 19; refine HD5.out.mono ?_; rintro e V5 ⟨rfl, q5, hv5⟩; (have HB5 : Hid (Below w.heap.size w V5) := (by show Below _ _ _; rw [← hv5]; exact HB4.out.trans ((below_drewNg V4 q5).mono HB4.out.size))); clear hv5) | fail)
       go_ret
       exact ⟨by rw [HE.out]; rfl, HB5.out⟩
      | true =>
       have HTK : Hid ((l.map (·.2)).take (k + 1) = (l2.map (·.2)).take (k + 1)) := by
        show _ = _
        rw [List.take_add_one, List.take_add_one, HEQ.out, List.getElem?_map, List.getElem?_map, HP.out, HP2.out, Option.map_some, Option.map_some, HALL.out rfl rfl]
       clear HN4 HN5 HALL
       go_wp2_with (first | (go_at_call 16; refine HD4.out.mono ?_; rintro e V4 ⟨rfl, q4, hv4⟩; (have hb4 : Below wc.heap.size wc V4 := (by rw [← hv4]; exact below_drewNg wc q4)); (have HB4 := Lib.hid (HBC.out.trans (hb4.mono HBC.out.size))); (have hxx := (hb4.block _ (Array.getElem?_eq_some_iff.1 HX.out).1).trans HX.out); (have hyy := (hb4.block _ (Array.getElem?_eq_some_iff.1 HY.out).1).trans HY.out); (have x5 : V4.cell? ⟨X, 5, none⟩ = some (.slice Aa na ca) := Ard.row_cell hxx 5); (have y5 : V4.cell? ⟨Y, 5, none⟩ = some (.slice Ba na2 ca2) := Ard.row_cell hyy 5); (have HD5 := Lib.hid (HC5.out V4 (HBW.out.trans (hb4.mono HBW.out.size)))); clear hb4 hv4 hxx hyy) | (go_at_call 19; refine HD5.out.mono ?_; rintro e V5 ⟨rfl, q5, hv5⟩; (have HB5 : Hid (Below w.heap.size w V5) := (by show Below _ _ _; rw [← hv5]; exact HB4.out.trans ((below_drewNg V4 q5).mono HB4.out.size))); clear hv5) | fail)
       go_roundw
       case rel => exact ⟨k + 1, HLT.out, by first | rfl | rw [HU.out], HTK, HB5⟩
       case measure => first | exact meas_by (d := 1) HLT.out (by omega) | (rw [HU.out]; exact meas_by (d := 1) HLT.out (by omega))
   ·obtain rfl : k = n := by omega
    have d0 : decide ((k : Int) < (k : Int)) = false := decide_eq_false (by omega)
    have HE : Hid (res = true) := by
     show _ = _
     have h := HEQ.out
     rw [List.take_of_length_le (by rw [List.length_map, HLN.out]; exact Nat.le_refl _), List.take_of_length_le (by rw [List.length_map, HLN2.out]; exact Nat.le_refl _)] at h
     rw [← HRES.out]
     exact decide_eq_true h
    clear hlt hk
    go_wp2_with fail
    go_ret
    exact ⟨by rw [HE.out]; rfl, HB.out⟩
 ·have q0 : ((n : Int) != (m : Int)) = true := by simp; omega
  have HE : Hid (res = false) := by
   show _ = _
   rw [← hres]
   refine decide_eq_false fun e => hnm ?_
   have := congrArg List.length e
   simp only [List.length_map] at this
   omega
  clear hres hln hln2 H H2 hnm
  go_enter Tryz.func14, Tryz.ntmps14
  go_wp2
  go_ret
  exact ⟨by rw [HE.out]; rfl, Below.refl _ _⟩
end Go.Proofs.YtoofgblmpjndjaaGreatDoor.Scr
set_option linter.unusedVariables false
set_option linter.unusedSimpArgs false
namespace Go.Proofs.YtoofgblmpjndjaaGreatDoor.Scr
open Go.RowKit K Go.Lib

theorem firsts_eq {l l2 : List (Int × St)} (h : l.map (·.2) = l2.map (·.2)) (h2 : l.map (·.1) = l2.map (·.1)) : l = l2 := by
 induction l generalizing l2 with
 | nil => cases l2 with
  | nil => rfl
  | cons b r => simp at h
 | cons a r ih => cases l2 with
  | nil => simp at h
  | cons b r2 =>
   simp only [List.map_cons, List.cons.injEq] at h h2
   rw [ih h.2 h2.2]
   congr 1
   exact Prod.ext h2.1 h.1
set_option maxRecDepth 20000 in
set_option maxHeartbeats 8000000 in
theorem lsame_any {A B : Option Addr} {n c m c2 : Nat} {l l2 : List (Int × St)} (w : World) (H : TS w A n l) (H2 : TS w B m l2) :
  Calls Tryz.prog 11 #[.slice A n c, .slice B m c2] w fun e w' => e = .returned (.bool (decide (l = l2))) ∧ Below w.heap.size w w' := by
 obtain ⟨res, hres⟩ : ∃ b, decide (l = l2) = b := ⟨_, rfl⟩
 rw [hres]
 have HRES := Lib.hid hres
 have HRS := rsame_any (c := c) (c2 := c2) w H H2
 obtain ⟨E, hE⟩ : ∃ b, decide (l.map (·.2) = l2.map (·.2)) = b := ⟨_, rfl⟩
 rw [hE] at HRS
 have HRS := Lib.hid HRS
 have HT := Lib.hid H
 have HT2 := Lib.hid H2
 have HLN := Lib.hid H.len
 have HLN2 := Lib.hid H2.len
 have HSZ := Lib.hid H.sz
 cases E with
 | false =>
  have HE : Hid (res = false) := by show _ = _; rw [← hres]; exact decide_eq_false (fun e => of_decide_eq_false hE (by rw [e]))
  clear hres hE H H2
  go_enter Tryz.func11, Tryz.ntmps11
  go_wp2_with (first | (go_at_call 14; refine HRS.out.mono ?_; rintro e V ⟨rfl, hb⟩; (have HB := Lib.hid hb); clear hb) | fail)
  go_ret
  exact ⟨by rw [HE.out]; rfl, HB.out⟩
 | true =>
  have hse : l.map (·.2) = l2.map (·.2) := of_decide_eq_true hE
  have HSE := Lib.hid hse
  have hnm : n = m := by have := congrArg List.length HSE.out; simp only [List.length_map] at this; have := H.len; have := H2.len; omega
  subst hnm
  clear hres hE H H2 hse
  go_enter Tryz.func11, Tryz.ntmps11
  go_wp2_with (first | (go_at_call 14; refine HRS.out.mono ?_; rintro e V ⟨rfl, hb⟩; (have HBV := Lib.hid hb); clear hb) | fail)
  go_loopw [12] (fun s12 wx => ∃ k : Nat, k ≤ n ∧ s12 = .int .i64 (k : Int) ∧ Hid ((l.map (·.1)).take k = (l2.map (·.1)).take k) ∧ Hid (Below w.heap.size w wx)) (fun s12 _ => n - (intOf s12).toNat)
  case atStart => exact ⟨0, Nat.zero_le _, rfl, rfl, HBV⟩
  case round =>
   obtain ⟨k, hk, rfl, HEQ, HB⟩ := hrel
   by_cases hlt : k < n
   ·have HLT := Lib.hid hlt
    obtain ⟨p, hp⟩ : ∃ p, l[k]? = some p := ⟨l[k]'(by rw [HLN.out]; exact hlt), List.getElem?_eq_getElem _⟩
    obtain ⟨p2, hp2⟩ : ∃ p, l2[k]? = some p := ⟨l2[k]'(by rw [HLN2.out]; exact hlt), List.getElem?_eq_getElem _⟩
    obtain ⟨b, o, rfl, ⟨As, ns, cs, Aa, na, ca, h0, -, -, -, -, -, -, -⟩, hbl⟩ := (HT.out.below HB.out).at' k p hp
    obtain ⟨b2, o2, rfl, ⟨Bs, ns2, cs2, Ba, na2, ca2, g0, -, -, -, -, -, -, -⟩, gbl⟩ := (HT2.out.below HB.out).at' k p2 hp2
    have d0 : decide ((k : Int) < (n : Int)) = true := decide_eq_true (by omega)
    have e0 : decide (k < n) = true := decide_eq_true hlt
    have l0 : (k : Int) < n := by omega
    have z0 : (0 : Int) ≤ k := by omega
    have HU : Hid (wrap64 ((k : Int) + 1) = ((k + 1 : Nat) : Int)) := by show _ = _; have := HSZ.out; rw [IntWalk.wrap64_in _ (by omega)]; rfl
    have HP := Lib.hid hp
    have HP2 := Lib.hid hp2
    clear hp hp2 hlt hk hbl gbl
    go_wp2_with fail
    refine wp_region_held_drew (S := fun V => V.cell? ⟨b, o + k * 6, none⟩ = some (.int .i64 p.1) ∧ V.cell? ⟨b2, o2 + k * 6, none⟩ = some (.int .i64 p2.1)) (by kernel_rfl) ⟨h0, g0⟩ (fun hHeld => ?_)
    obtain ⟨V0, hV0⟩ : ∃ x, wr.drew = x := ⟨_, rfl⟩
    have HB0 : Hid (Below w.heap.size w V0) := by show Below _ _ _; rw [← hV0]; exact HB.out.drew
    rw [hV0] at hHeld ⊢
    clear hV0
    refine wpAnyH_take (i := 0) (v := .slice (some ⟨b, o, none⟩) n c) rfl (by kernel_rfl) (by kernel_rfl) (by kernel_rfl) (fun _ _ _ h => h) (Or.inl ⟨by rfl, ?_⟩) hHeld ?_
    ·intro wz hSw; obtain ⟨s0, r0⟩ := hSw; go_simp
    try simp only [Act.put, List.getElem_toArray, List.getElem_cons_succ, List.getElem_cons_zero, List.setIfInBounds_toArray, List.set_cons_zero, List.set_cons_succ]
    refine wpAnyH_take (i := 1) (v := .int .i64 (k : Int)) rfl (by kernel_rfl) (by kernel_rfl) (by kernel_rfl) (fun _ _ _ h => h) (Or.inl ⟨by rfl, ?_⟩) hHeld ?_
    ·intro wz hSw; obtain ⟨s0, r0⟩ := hSw; go_simp
    try simp only [Act.put, List.getElem_toArray, List.getElem_cons_succ, List.getElem_cons_zero, List.setIfInBounds_toArray, List.set_cons_zero, List.set_cons_succ]
    refine wpAnyH_take (i := 2) (v := .pointer (some ⟨b, o + k * 6, none⟩)) rfl (by kernel_rfl) (by kernel_rfl) (by kernel_rfl) (fun _ _ _ h => h) (Or.inl ⟨by rfl, ?_⟩) hHeld ?_
    ·intro wz hSw; obtain ⟨s0, r0⟩ := hSw; go_simp
    try simp only [Act.put, List.getElem_toArray, List.getElem_cons_succ, List.getElem_cons_zero, List.setIfInBounds_toArray, List.set_cons_zero, List.set_cons_succ]
    refine wpAnyH_take (i := 3) (v := .pointer (some ⟨b, o + k * 6, none⟩)) rfl (by kernel_rfl) (by kernel_rfl) (by kernel_rfl) (fun _ _ _ h => h) (Or.inl ⟨by rfl, ?_⟩) hHeld ?_
    ·intro wz hSw; obtain ⟨s0, r0⟩ := hSw; go_simp
    try simp only [Act.put, List.getElem_toArray, List.getElem_cons_succ, List.getElem_cons_zero, List.setIfInBounds_toArray, List.set_cons_zero, List.set_cons_succ]
    refine wpAnyH_take (i := 4) (v := .int .i64 p.1) rfl (by kernel_rfl) (by kernel_rfl) (by kernel_rfl) (fun _ _ _ h => h) (Or.inl ⟨by rfl, ?_⟩) hHeld ?_
    ·intro wz hSw; obtain ⟨s0, r0⟩ := hSw; go_simp
    try simp only [Act.put, List.getElem_toArray, List.getElem_cons_succ, List.getElem_cons_zero, List.setIfInBounds_toArray, List.set_cons_zero, List.set_cons_succ]
    refine wpAnyH_take (i := 5) (v := .slice (some ⟨b2, o2, none⟩) n c2) rfl (by kernel_rfl) (by kernel_rfl) (by kernel_rfl) (fun _ _ _ h => h) (Or.inl ⟨by rfl, ?_⟩) hHeld ?_
    ·intro wz hSw; obtain ⟨s0, r0⟩ := hSw; go_simp
    try simp only [Act.put, List.getElem_toArray, List.getElem_cons_succ, List.getElem_cons_zero, List.setIfInBounds_toArray, List.set_cons_zero, List.set_cons_succ]
    refine wpAnyH_take (i := 6) (v := .int .i64 (k : Int)) rfl (by kernel_rfl) (by kernel_rfl) (by kernel_rfl) (fun _ _ _ h => h) (Or.inl ⟨by rfl, ?_⟩) hHeld ?_
    ·intro wz hSw; obtain ⟨s0, r0⟩ := hSw; go_simp
    try simp only [Act.put, List.getElem_toArray, List.getElem_cons_succ, List.getElem_cons_zero, List.setIfInBounds_toArray, List.set_cons_zero, List.set_cons_succ]
    refine wpAnyH_take (i := 7) (v := .pointer (some ⟨b2, o2 + k * 6, none⟩)) rfl (by kernel_rfl) (by kernel_rfl) (by kernel_rfl) (fun _ _ _ h => h) (Or.inl ⟨by rfl, ?_⟩) hHeld ?_
    ·intro wz hSw; obtain ⟨s0, r0⟩ := hSw; go_simp
    try simp only [Act.put, List.getElem_toArray, List.getElem_cons_succ, List.getElem_cons_zero, List.setIfInBounds_toArray, List.set_cons_zero, List.set_cons_succ]
    refine wpAnyH_take (i := 8) (v := .pointer (some ⟨b2, o2 + k * 6, none⟩)) rfl (by kernel_rfl) (by kernel_rfl) (by kernel_rfl) (fun _ _ _ h => h) (Or.inl ⟨by rfl, ?_⟩) hHeld ?_
    ·intro wz hSw; obtain ⟨s0, r0⟩ := hSw; go_simp
    try simp only [Act.put, List.getElem_toArray, List.getElem_cons_succ, List.getElem_cons_zero, List.setIfInBounds_toArray, List.set_cons_zero, List.set_cons_succ]
    refine wpAnyH_take (i := 9) (v := .int .i64 p2.1) rfl (by kernel_rfl) (by kernel_rfl) (by kernel_rfl) (fun _ _ _ h => h) (Or.inl ⟨by rfl, ?_⟩) hHeld ?_
    ·intro wz hSw; obtain ⟨s0, r0⟩ := hSw; go_simp
    try simp only [Act.put, List.getElem_toArray, List.getElem_cons_succ, List.getElem_cons_zero, List.setIfInBounds_toArray, List.set_cons_zero, List.set_cons_succ]
    refine wpAnyH_take (i := 10) (v := .bool (p.1 != p2.1)) rfl (by kernel_rfl) (by kernel_rfl) (by kernel_rfl) (fun _ _ _ h => h) (Or.inl ⟨by rfl, ?_⟩) hHeld ?_
    ·intro wz hSw; obtain ⟨s0, r0⟩ := hSw; go_simp
    try simp only [Act.put, List.getElem_toArray, List.getElem_cons_succ, List.getElem_cons_zero, List.setIfInBounds_toArray, List.set_cons_zero, List.set_cons_succ]
    refine wpAnyH_done (by kernel_rfl) ?_ _
    by_cases hne : ¬ p.1 = p2.1
    ·have q1 : (p.1 != p2.1) = true := by simpa using hne
     have HE : Hid (res = false) := by
      show _ = _
      rw [← HRES.out]
      exact decide_eq_false (fun e => hne (by
       have h1 := HP.out
       rw [e, HP2.out] at h1
       injection h1 with h1
       rw [h1]))
     rw [q1]
     clear hne
     go_wp2_with fail
     go_ret
     exact ⟨by rw [HE.out]; rfl, HB0.out⟩
    replace hne := Decidable.not_not.1 hne
    have q1 : (p.1 != p2.1) = false := by simpa using hne
    have HTK : Hid ((l.map (·.1)).take (k + 1) = (l2.map (·.1)).take (k + 1)) := by
     show _ = _
     rw [List.take_add_one, List.take_add_one, HEQ.out, List.getElem?_map, List.getElem?_map, HP.out, HP2.out, Option.map_some, Option.map_some, hne]
    rw [q1]
    clear hne
    go_wp2_with fail
    go_roundw
    case rel => exact ⟨k + 1, HLT.out, by first | rfl | rw [HU.out], HTK, HB0⟩
    case measure => first | exact meas_by (d := 1) HLT.out (by omega) | (rw [HU.out]; exact meas_by (d := 1) HLT.out (by omega))
   ·obtain rfl : k = n := by omega
    have d0 : decide ((k : Int) < (k : Int)) = false := decide_eq_false (by omega)
    have HE : Hid (res = true) := by
     show _ = _
     have h := HEQ.out
     rw [List.take_of_length_le (by rw [List.length_map, HLN.out]; exact Nat.le_refl _), List.take_of_length_le (by rw [List.length_map, HLN2.out]; exact Nat.le_refl _)] at h
     rw [← HRES.out]
     exact decide_eq_true (firsts_eq HSE.out h)
    clear hlt hk
    go_wp2_with fail
    go_ret
    exact ⟨by rw [HE.out]; rfl, HB.out⟩
end Go.Proofs.YtoofgblmpjndjaaGreatDoor.Scr
set_option linter.unusedVariables false
set_option linter.unusedSimpArgs false
namespace Go.Proofs.YtoofgblmpjndjaaGreatDoor.Scr
open Go.RowKit K Go.Lib Go.Shelf

def wk1 : List (Int × St) := [(1, ⟨[114, 101, 97, 100], [97], [], [105, 110, 46, 112, 110, 103], []⟩), (3, ⟨[102, 108, 105, 112], [98], [[97]], [], []⟩), (4, ⟨[119, 114, 105, 116, 101], [], [[98]], [111, 117, 116, 46, 98, 109, 112], [2, 0]⟩)]
theorem wake1 : parseM [114, 101, 97, 100, 32, 97, 32, 105, 110, 46, 112, 110, 103, 10, 35, 32, 110, 111, 10, 102, 108, 105, 112, 32, 98, 32, 97, 10, 119, 114, 105, 116, 101, 32, 98, 32, 111, 117, 116, 46, 98, 109, 112, 32, 98, 109, 112, 32, 48] = .ok wk1 := by kernel_rfl
theorem wake2 : parseM [102, 108, 105, 112, 32, 98, 32, 97] = .err 1 8 := by kernel_rfl
theorem wake3 : parseM [10, 102, 108, 105, 112, 32, 98] = .err 2 7 := by kernel_rfl
theorem wakeW : writeM (wk1.map (·.2)) = ([114, 101, 97, 100, 32, 97, 32, 105, 110, 46, 112, 110, 103, 10, 102, 108, 105, 112, 32, 98, 32, 97, 10, 119, 114, 105, 116, 101, 32, 98, 32, 111, 117, 116, 46, 98, 109, 112, 32, 98, 109, 112, 32, 48, 10], 0) := by kernel_rfl
theorem wk_fit : ∀ p ∈ wk1, FitS p.2 := by
 intro p hp
 unfold wk1 at hp
 simp only [List.mem_cons, List.not_mem_nil, or_false] at hp
 rcases hp with rfl | rfl | rfl <;> refine ⟨by decide, by decide, ?_⟩ <;> decide
theorem TO.few {w : World} {base k c : Nat} {A : Option Addr} {R : List SRow} (h : TO w base (.slice A k c) k R) (hk : k ≤ 1099511627776) (hs : ∀ r ∈ R, r.p.2.srcs.length ≤ 8796093022000 ∧ r.p.2.args.length * 8 ≤ 140737488351232) : TS w A k (R.map SRow.p) :=
 h.steps hk fun r hr => by
  have h1 := (h.2.2 r hr).1.1
  have h2 := (h.2.2 r hr).2.1
  simp only [List.length_map, Nat.mul_one] at h1 h2
  have := hs r hr
  omega
theorem Vars.maxG {w : World} (h : Vars w) : MaxG w := h.most
set_option maxRecDepth 20000 in
set_option maxHeartbeats 8000000 in
theorem wakes_any (w : World) (HV : Vars w) : Calls Tryz.prog 8 #[] w fun e w' => e = .returned (.bool true) ∧ Below w.heap.size w w' := by
 have HV0 := Lib.hid HV
 have HP1 : Hid (∀ V, MaxG V → Calls Tryz.prog 9 #[.string ⟨#[114, 101, 97, 100, 32, 97, 32, 105, 110, 46, 112, 110, 103, 10, 35, 32, 110, 111, 10, 102, 108, 105, 112, 32, 98, 32, 97, 10, 119, 114, 105, 116, 101, 32, 98, 32, 111, 117, 116, 46, 98, 109, 112, 32, 98, 109, 112, 32, 48]⟩] V (ParseP V (.ok wk1))) := fun V h => by have := parse_any (t := [114, 101, 97, 100, 32, 97, 32, 105, 110, 46, 112, 110, 103, 10, 35, 32, 110, 111, 10, 102, 108, 105, 112, 32, 98, 32, 97, 10, 119, 114, 105, 116, 101, 32, 98, 32, 111, 117, 116, 46, 98, 109, 112, 32, 98, 109, 112, 32, 48]) V h; rw [wake1] at this; exact this
 have HP2 : Hid (∀ V, MaxG V → Calls Tryz.prog 9 #[.string ⟨#[102, 108, 105, 112, 32, 98, 32, 97]⟩] V (ParseP V (.err 1 8))) := fun V h => by have := parse_any (t := [102, 108, 105, 112, 32, 98, 32, 97]) V h; rw [wake2] at this; exact this
 have HP3 : Hid (∀ V, MaxG V → Calls Tryz.prog 9 #[.string ⟨#[10, 102, 108, 105, 112, 32, 98]⟩] V (ParseP V (.err 2 7))) := fun V h => by have := parse_any (t := [10, 102, 108, 105, 112, 32, 98]) V h; rw [wake3] at this; exact this
 clear HV
 go_enter Tryz.func8, Tryz.ntmps8
 go_wp2_with (first | (go_at_call 9; refine (HP1.out w HV0.out.maxG).mono ?_; rintro e V1 ⟨hb1, he⟩; (try (simp only at he)); obtain ⟨A, n, c, R, rfl, hto, hrp⟩ := he; (have hn : n = 3 := (by have h1 := hto.2.1; have h2 := congrArg List.length hrp; simp [wk1] at h2; omega)); subst hn; (have hts := hto.few (by omega) (fun r hr => by have hm : r.p ∈ wk1 := (by rw [← hrp]; exact List.mem_map.2 ⟨r, hr, rfl⟩); have h3 := (wk_fit r.p hm).1; omega)); rw [hrp] at hts; (have HB1 := Lib.hid hb1); (have HTS1 := Lib.hid hts); (have HV1 := Lib.hid (HV0.out.below hb1 (Nat.le_refl _))); clear hb1 hts hrp hto HP1) | (go_at_call 9; refine (HP2.out V1 HV1.out.maxG).mono ?_; rintro e V2 ⟨hb2, he⟩; (try (simp only at he)); subst he; (have HB2 := Lib.hid (HB1.out.trans (hb2.mono HB1.out.size))); (have HTS2 := Lib.hid (HTS1.out.below hb2)); (have HV2 := Lib.hid (HV1.out.below hb2 (Nat.le_refl _))); clear hb2 HP2) | (go_at_call 9; refine (HP3.out V2 HV2.out.maxG).mono ?_; rintro e V3 ⟨hb3, he⟩; (try (simp only at he)); subst he; (have HB3 := Lib.hid (HB2.out.trans (hb3.mono HB2.out.size))); (have HTS3 := Lib.hid (HTS2.out.below hb3)); (have HV3 := Lib.hid (HV2.out.below hb3 (Nat.le_refl _))); clear hb3 HP3) | (go_at_call 13; refine (steps_any V3 HTS3.out).mono ?_; rintro e V4 ⟨hb4, A4, n4, c4, R4, rfl, hto, hrp⟩; (have hn : n4 = 3 := (by have h1 := hto.2.1; have h2 := congrArg List.length hrp; simp [wk1] at h2; omega)); subst hn; (have hts := hto.few (by omega) (fun r hr => by have hm : r.p ∈ wk1 := (by rw [← hrp]; exact List.mem_map.2 ⟨r, hr, rfl⟩); have h3 := (wk_fit r.p hm).1; omega)); rw [hrp] at hts; (have HB4 := Lib.hid (HB3.out.trans (hb4.mono HB3.out.size))); (have HTS4 := Lib.hid (HTS3.out.below hb4)); (have HTW := Lib.hid hts); (have HV4 := Lib.hid (HV3.out.below hb4 (Nat.le_refl _))); clear hb4 hts hrp hto) | (go_at_call 12; refine (write_any V4 HTW.out HV4.out wk_fit).mono ?_; rintro e V5 ⟨he, hb5⟩; rw [wakeW] at he; subst he; (have HB5 := Lib.hid (HB4.out.trans (hb5.mono HB4.out.size))); (have hts := HTS4.out.below hb5); obtain ⟨b, o, rfl, ⟨As, ns, cs, Aa, na, ca, h0, -, -, -, -, -, -, -⟩, -⟩ := hts.at' 1 _ rfl; obtain ⟨b2, o2, e2, ⟨Bs, ns2, cs2, Ba, na2, ca2, -, -, -, -, -, g5, -, gsi⟩, -⟩ := hts.at' 2 _ rfl; injection e2 with e2; injection e2 with ea eb; subst ea eb; (have y0 : V5.cell? ⟨b, o + 6, none⟩ = some (.int .i64 3) := h0); (have y1 : V5.cell? ⟨b, o + 12 + 5, none⟩ = some (.slice Ba na2 ca2) := g5); (have y2 : V5.cell? ⟨b, o + 17, none⟩ = some (.slice Ba na2 ca2) := g5); obtain ⟨V6, hV6⟩ : ∃ x, V5.alloc (.cells #[.int .i64 2, .int .i64 0] 3) = x := ⟨_, rfl⟩; (have HL6 : Hid (SI V6 .i64 (some ⟨V5.heap.size, 0, none⟩) 2 [2, 0]) := (by rw [← hV6]; exact Ard.SI.lit V5 [2, 0] 3 (by decide))); (have HA6 : Hid (SI V6 .i64 Ba na2 [2, 0]) := (by rw [← hV6]; exact gsi.alloc _)); (have HB6 : Hid (Below w.heap.size w V6) := (by show Below _ _ _; rw [← hV6]; exact HB5.out.alloc HB5.out.size _)); obtain ⟨zw, hzw⟩ : ∃ z, ba [114, 101, 97, 100, 32, 97, 32, 105, 110, 46, 112, 110, 103, 10, 102, 108, 105, 112, 32, 98, 32, 97, 10, 119, 114, 105, 116, 101, 32, 98, 32, 111, 117, 116, 46, 98, 109, 112, 32, 98, 109, 112, 32, 48, 10] = z := ⟨_, rfl⟩; (have rw1 : (zw.toList == [114, 101, 97, 100, 32, 97, 32, 105, 110, 46, 112, 110, 103, 10, 102, 108, 105, 112, 32, 98, 32, 97, 10, 119, 114, 105, 116, 101, 32, 98, 32, 111, 117, 116, 46, 98, 109, 112, 32, 98, 109, 112, 32, 48, 10]) = true := (by rw [← hzw, tl_ba]; exact beq_self_eq_true _)); rw [hzw]; clear hb5 hts h0 g5 gsi hzw) | (go_at_call 19; refine (rsamei_any V6 HA6.out HL6.out).mono ?_; rintro e V7 ⟨rfl, q, hq⟩; (have HB7 : Hid (Below w.heap.size w V7) := (by show Below _ _ _; rw [← hq]; exact HB6.out.trans ((below_drewNg V6 q).mono HB6.out.size))); (rw [decide_eq_true (rfl : ([2, 0] : List Int) = [2, 0])]); clear hq) | fail)
 go_ret
 exact ⟨rfl, HB7.out⟩
end Go.Proofs.YtoofgblmpjndjaaGreatDoor.Scr
set_option linter.unusedVariables false
set_option linter.unusedSimpArgs false
namespace Go.Proofs.YtoofgblmpjndjaaGreatDoor.Scr
open Go.RowKit K Go.Lib

theorem TO.ts {w : World} {base n c : Nat} {A : Option Addr} {R : List SRow} {l : List (Int × St)} (h : TO w base (.slice A n c) n R) (hr : R.map SRow.p = l) (hf : ∀ p ∈ l, FitS p.2) (hl : l.length ≤ 1099511627776) : TS w A n l := by
 have h1 := h.2.1
 have h2 := congrArg List.length hr
 rw [List.length_map] at h2
 have h3 := h.few (by omega) (fun r hm => by
  have h4 := hf r.p (by rw [← hr]; exact List.mem_map.2 ⟨r, hm, rfl⟩)
  have h5 := h4.1
  omega)
 rw [hr] at h3
 exact h3
theorem parse_ts {w V : World} {A : Option Addr} {n c : Nat} {R : List SRow} {t : Tx} {l : List (Int × St)} (hp : parseM t = .ok l) (h : TO V w.heap.size (.slice A n c) n R) (hr : R.map SRow.p = l) : TS V A n l ∧ n = l.length := by
 have h64 := (parseM_len hp).2
 refine ⟨h.ts hr (parse_fit hp) (by omega), ?_⟩
 have h2 := congrArg List.length hr
 rw [List.length_map, h.2.1] at h2
 exact h2
theorem steps_ts {w V : World} {A : Option Addr} {n c : Nat} {l : List (Int × St)} (hn : l.length ≤ 1099511627776) (hf : ∀ p ∈ l, FitS p.2) {R : List SRow} (h : TO V w.heap.size (.slice A n c) n R) (hr : R.map SRow.p = l) : TS V A n l ∧ n = l.length := by
 refine ⟨h.ts hr hf hn, ?_⟩
 have h2 := congrArg List.length hr
 rw [List.length_map, h.2.1] at h2
 exact h2
end Go.Proofs.YtoofgblmpjndjaaGreatDoor.Scr
