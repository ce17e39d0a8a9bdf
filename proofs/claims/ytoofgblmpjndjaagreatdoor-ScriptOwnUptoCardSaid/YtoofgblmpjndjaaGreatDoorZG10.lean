/-
  Texts of this claim, joined by program (ScR, ScS, ScT, OpsC, OpsD). Steps in memory; walks: the reference's Reads.
-/
import Derived.Test.YtoofgblmpjndjaaGreatDoorZG9
import Derived.Deep.CutRange
import Derived.Test.YtoofgblmpjndjaaGreatDoorZG5
import Derived.Test.YtoofgblmpjndjaaGreatDoorZG8
set_option linter.unusedVariables false
set_option linter.unusedSimpArgs false
namespace Go.Proofs.YtoofgblmpjndjaaGreatDoor.Scr
open Go.RowKit K Go.Lib

def StepAt (w : World) (b o : Nat) (p : Int × St) : Prop := ∃ (A : Option Addr) (n c : Nat) (A2 : Option Addr) (m c2 : Nat),
 w.cell? ⟨b, o, none⟩ = some (.int .i64 p.1) ∧ w.cell? ⟨b, o + 1, none⟩ = some (.string (ba p.2.op)) ∧ w.cell? ⟨b, o + 2, none⟩ = some (.string (ba p.2.dst)) ∧ w.cell? ⟨b, o + 3, none⟩ = some (.slice A n c) ∧
 w.cell? ⟨b, o + 4, none⟩ = some (.string (ba p.2.file)) ∧ w.cell? ⟨b, o + 5, none⟩ = some (.slice A2 m c2) ∧ SS w A n p.2.srcs ∧ SI w .i64 A2 m p.2.args
theorem StepAt.below {w w' : World} {b o B : Nat} {p : Int × St} (h : StepAt w b o p) (hl : b < w.heap.size) (hb : Below w.heap.size w w') : StepAt w' b o p := by
 obtain ⟨A, n, c, A2, m, c2, h0, h1, h2, h3, h4, h5, hs, ha⟩ := h
 have e := hb.block b hl
 exact ⟨A, n, c, A2, m, c2, (cell_same e _).trans h0, (cell_same e _).trans h1, (cell_same e _).trans h2, (cell_same e _).trans h3, (cell_same e _).trans h4, (cell_same e _).trans h5, hs.below hb, ha.below hb (Nat.le_refl _)⟩
structure TS (w : World) (A : Option Addr) (n : Nat) (l : List (Int × St)) : Prop where
 len : l.length = n
 sz : n ≤ 1099511627776
 at' : ∀ i p, l[i]? = some p → ∃ b o, A = some ⟨b, o, none⟩ ∧ StepAt w b (o + i * 6) p ∧ b < w.heap.size
theorem TS.below {w w' : World} {A : Option Addr} {n : Nat} {l : List (Int × St)} (h : TS w A n l) (hb : Below w.heap.size w w') : TS w' A n l :=
 ⟨h.len, h.sz, fun i p hp => by
  obtain ⟨b, o, rfl, hs, hl⟩ := h.at' i p hp
  exact ⟨b, o, rfl, hs.below (B := 0) hl hb, Nat.lt_of_lt_of_le hl hb.size⟩⟩
def readT : Tx := [114, 101, 97, 100]
def rstep (out : List Tx) (p : Int × St) : List Tx := if p.2.op = readT ∧ out.contains p.2.file = false then out ++ [p.2.file] else out
def readsM (l : List (Int × St)) : List Tx := l.foldl rstep []
theorem readsM_snoc (l : List (Int × St)) (p : Int × St) : readsM (l ++ [p]) = rstep (readsM l) p := by unfold readsM; rw [List.foldl_append]; rfl
set_option maxRecDepth 20000 in
set_option maxHeartbeats 4000000 in
theorem rreads_any {A : Option Addr} {n c : Nat} {l : List (Int × St)} (w : World) (H : TS w A n l) : Calls Tryz.prog 18 #[.slice A n c] w (TxtsP w (readsM l)) := by
 have HT := Lib.hid H
 have HLN := Lib.hid H.len
 have HSZ : Hid (n ≤ 1099511627776) := H.sz
 clear H
 go_enter Tryz.func18, Tryz.ntmps18
 go_wp2
 go_loopw [3, 4] (fun s3 s4 wr => ∃ (k : Nat) (A1 : Option Addr) (q c1 : Nat), k ≤ n ∧ s3 = .slice A1 q c1 ∧ s4 = .int .i64 (k : Int) ∧ q ≤ k ∧ Hid ((readsM (l.take k)).length = q) ∧ wr.ownsRow w.heap.size 9 1 (.slice A1 q c1) q ((readsM (l.take k)).map vS) ∧ Below w.heap.size w wr) (fun _ s4 _ => n - (intOf s4).toNat)
 case atStart => exact ⟨0, none, 0, 0, by omega, rfl, rfl, by omega, rfl, World.ownsRow_nil _ _ _ _, Below.refl _ _⟩
 case round =>
  obtain ⟨k, A1, q, c1, hk, rfl, rfl, hq, HQL, ho, hb⟩ := hrel
  have HO := Lib.hid ho
  have HB := Lib.hid hb
  have HQ := Lib.hid hq
  clear ho hb hq
  by_cases hlt : k < n
  ·have HLT := Lib.hid hlt
   have HTW := Lib.hid (HT.out.below HB.out)
   obtain ⟨p, hp⟩ : ∃ p, l[k]? = some p := ⟨l[k]'(by rw [HLN.out]; exact hlt), List.getElem?_eq_getElem _⟩
   obtain ⟨b, o, rfl, hst, hbl⟩ := HTW.out.at' k p hp
   obtain ⟨As, ns, cs, Aa, na, ca, h0, h1, h2, h3, h4, h5, hss, hsi⟩ := hst
   have d0 : decide ((k : Int) < (n : Int)) = true := decide_eq_true (by omega)
   have e0 : decide (k < n) = true := decide_eq_true hlt
   have l0 : (k : Int) < n := by omega
   have z0 : (0 : Int) ≤ k := by omega
   have HU : Hid (wrap64 ((k : Int) + 1) = ((k + 1 : Nat) : Int)) := by show _ = _; have := HSZ.out; rw [IntWalk.wrap64_in _ (by omega)]; rfl
   have HTK : Hid (readsM (l.take (k + 1)) = rstep (readsM (l.take k)) p) := by show _ = _; rw [List.take_add_one, hp, Option.toList_some, readsM_snoc]
   have HSR := Lib.hid (SS.of_own HO.out (by have := HQ.out; have := HSZ.out; omega))
   have HIN := Lib.hid (in_any (ba p.2.file) wr HSR.out (c := c1))
   obtain ⟨R, hR⟩ : ∃ R, readsM (l.take k) = R := ⟨_, rfl⟩
   rw [hR] at HQL HO HTK HSR HIN
   obtain ⟨zf, hzf⟩ : ∃ z, ba p.2.file = z := ⟨_, rfl⟩
   rw [hzf] at h4 HIN
   have HZF := Lib.hid hzf
   obtain ⟨eR, hE⟩ : ∃ e, ((ba p.2.op).toList == [114, 101, 97, 100]) = e := ⟨_, rfl⟩
   have HER : Hid (eR = decide (p.2.op = readT)) := by show _ = _; rw [← hE]; exact lit_beq2
   clear h0 h2 h3 h5 hss hsi hp hk hlt hzf hR
   cases eR with
   | false =>
    have HST : Hid (readsM (l.take (k + 1)) = R) := by
     show _ = _
     rw [HTK.out]
     unfold rstep
     rw [if_neg (fun h => by have := HER.out; rw [decide_eq_true h.1] at this; cases this)]
    go_wp2_with fail
    go_roundw
    case rel => exact ⟨k + 1, _, q, c1, HLT.out, rfl, by first | rfl | rw [HU.out], by have := HQ.out; omega, by show _ = _; rw [HST.out]; exact HQL.out, by rw [HST.out]; exact HO.out, HB.out⟩
    case measure => first | exact meas_by (d := 1) HLT.out (by omega) | (rw [HU.out]; exact meas_by (d := 1) HLT.out (by omega))
   | true =>
    have hop : p.2.op = readT := of_decide_eq_true HER.out.symm
    obtain ⟨eC, hC⟩ : ∃ e, R.contains zf.data.toList = e := ⟨_, rfl⟩
    rw [hC] at HIN
    have HFL : Hid (zf.data.toList = p.2.file) := by show _ = _; rw [← HZF.out]; rfl
    rw [HFL.out] at hC
    cases eC with
    | true =>
     have HST : Hid (readsM (l.take (k + 1)) = R) := by
      show _ = _
      rw [HTK.out]
      unfold rstep
      rw [if_neg (fun h => by rw [h.2] at hC; cases hC)]
     clear hop hC
     go_wp2_with (first | (go_at_call 28; refine HIN.out.mono ?_; rintro e w' ⟨rfl, rfl⟩) | fail)
     go_roundw
     case rel => exact ⟨k + 1, _, q, c1, HLT.out, rfl, by first | rfl | rw [HU.out], by have := HQ.out; omega, by show _ = _; rw [HST.out]; exact HQL.out, by rw [HST.out]; exact HO.out, HB.out⟩
     case measure => first | exact meas_by (d := 1) HLT.out (by omega) | (rw [HU.out]; exact meas_by (d := 1) HLT.out (by omega))
    | false =>
     have HST : Hid (readsM (l.take (k + 1)) = R ++ [p.2.file]) := by
      show _ = _
      rw [HTK.out]
      unfold rstep
      rw [if_pos ⟨hop, hC⟩]
     clear hop hC
     obtain rfl := HZF.out
     obtain ⟨fw, hfw⟩ : ∃ f, p.2.file = f := ⟨_, rfl⟩
     rw [hfw] at HST h4 HIN
     clear hfw HZF HFL
     go_wp2_with (first | (go_at_call 28; refine HIN.out.mono ?_; rintro e w' ⟨rfl, rfl⟩) | (at_builtin; refine wpList_pushS rfl (.tmp 27) (.tmp 33) _ rfl w.heap.size Tryz.underlying34 A1 q c1 R rfl HO.out 9 fw rfl (by have := HQ.out; have := HLT.out; have := HSZ.out; omega) HB.out.size ?_) | fail)
     intro g cap w5 ho5 hb5 hlt5
     have HO5 := Lib.hid ho5
     have HB5 : Hid (Below w.heap.size w w5) := HB.out.trans hb5
     clear ho5 hb5 hlt5
     go_wp2_with fail
     go_roundw
     case rel => exact ⟨k + 1, _, q + 1, cap, HLT.out, rfl, by first | rfl | rw [HU.out], by have := HQ.out; omega, by show _ = _; rw [HST.out, List.length_append, HQL.out]; rfl, by rw [HST.out, List.map_append]; exact HO5.out, HB5.out⟩
     case measure => first | exact meas_by (d := 1) HLT.out (by omega) | (rw [HU.out]; exact meas_by (d := 1) HLT.out (by omega))
  ·obtain rfl : k = n := by omega
   have d0 : decide ((k : Int) < (k : Int)) = false := decide_eq_false (by omega)
   have hl : l.take k = l := List.take_of_length_le (by rw [HLN.out]; exact Nat.le_refl _)
   rw [hl] at HQL HO
   clear hl hk hlt
   go_wp2_with fail
   go_ret
   have hsz := HQ.out
   have hss := SS.of_own HO.out (by have := HSZ.out; omega)
   refine ⟨A1, c1, ?_, ?_, HB.out⟩
   ·rw [HQL.out]; rfl
   ·rw [HQL.out]; exact hss
end Go.Proofs.YtoofgblmpjndjaaGreatDoor.Scr
set_option linter.unusedVariables false
set_option linter.unusedSimpArgs false
namespace Go.Proofs.YtoofgblmpjndjaaGreatDoor.Scr
open Go.RowKit K Go.Lib
theorem own_frame {w w' : World} {base e sz n : Nat} {v : Value} {xs : List Value} (h : w.ownsRow base e sz v n xs) (hb : ∀ g, v.ownBlock = some g → w'.heap[g]? = w.heap[g]?) : w'.ownsRow base e sz v n xs := by
 refine ⟨h.1, ?_⟩
 rcases h.2 with hv | ⟨g, cap, cur, hv, h1, h2, h3⟩
 ·exact .inl hv
 ·exact .inr ⟨g, cap, cur, hv, h1, (hb g (by rw [hv]; rfl)).trans h2, h3⟩
theorem own_below {w w' : World} {base e sz n : Nat} {v : Value} {xs : List Value} (h : w.ownsRow base e sz v n xs) (hb : Below w.heap.size w w') : w'.ownsRow base e sz v n xs := own_frame h (fun g hg => hb.block g (h.lt g hg).2)
theorem contains_ba {l : List Tx} {t : Tx} : Lib.containsS (l.map ba) (ba t) = l.contains t := by
 rw [Bool.eq_iff_iff, Lib.containsS_iff, List.contains_iff_mem]
 constructor
 ·intro h
  obtain ⟨u, hu, he⟩ := List.mem_map.1 h
  rw [← ba_inj he]
  exact hu
 ·exact fun h => List.mem_map_of_mem h
theorem containsT {w : World} {A : Option Addr} {n c : Nat} {l : List Tx} (t : Tx) (H : SS w A n l) : Calls Tryz.prog 37 #[.slice A n c, .string (ba t)] w fun e w' => e = .returned (.bool (l.contains t)) ∧ w = w' := by
 by_cases h0 : n = 0
 ·subst h0
  refine (Scs.slices_Contains_string_empty A c (ba t) w).mono ?_
  rintro e w' ⟨rfl, rfl⟩
  have h1 := List.eq_nil_of_length_eq_zero H.len
  subst h1
  exact ⟨rfl, rfl⟩
 ·obtain ⟨b, o, _, rfl, -, -, -⟩ := H.cell (i := 0) (by omega)
  refine (Scs.slices_Contains_string b o n c (l.map ba) (ba t) w (by rw [List.length_map, H.len]; exact Nat.le_refl _) (by have := H.sz; omega) H.all).mono ?_
  rintro e w' ⟨rfl, rfl⟩
  refine ⟨?_, rfl⟩
  rw [List.take_of_length_le (by rw [List.length_map, H.len]; exact Nat.le_refl _), contains_ba]
set_option maxRecDepth 20000 in
set_option maxHeartbeats 4000000 in
theorem reads_any {A : Option Addr} {n c : Nat} {l : List (Int × St)} (w : World) (H : TS w A n l) : Calls Tryz.prog 17 #[.slice A n c] w (TxtsP w (readsM l)) := by
 have HT := Lib.hid H
 have HLN := Lib.hid H.len
 have HSZ : Hid (n ≤ 1099511627776) := H.sz
 clear H
 go_enter Tryz.func17, Tryz.ntmps17
 go_wp2
 go_loopw [3, 8] (fun s3 s4 wr => ∃ (k : Nat) (A1 : Option Addr) (q c1 : Nat), k ≤ n ∧ s3 = .slice A1 q c1 ∧ s4 = .int .i64 (k : Int) ∧ q ≤ k ∧ Hid ((readsM (l.take k)).length = q) ∧ wr.ownsRow w.heap.size 9 1 (.slice A1 q c1) q ((readsM (l.take k)).map vS) ∧ Below w.heap.size w wr) (fun _ s4 _ => n - (intOf s4).toNat)
 case atStart => exact ⟨0, none, 0, 0, by omega, rfl, rfl, by omega, rfl, World.ownsRow_nil _ _ _ _, Below.refl _ _⟩
 case round =>
  obtain ⟨k, A1, q, c1, hk, rfl, rfl, hq, HQL, ho, hb⟩ := hrel
  have HO := Lib.hid ho
  have HB := Lib.hid hb
  have HQ := Lib.hid hq
  clear ho hb hq
  by_cases hlt : k < n
  ·have HLT := Lib.hid hlt
   have HTW := Lib.hid (HT.out.below HB.out)
   obtain ⟨p, hp⟩ : ∃ p, l[k]? = some p := ⟨l[k]'(by rw [HLN.out]; exact hlt), List.getElem?_eq_getElem _⟩
   obtain ⟨b, o, rfl, hst, hbl⟩ := HTW.out.at' k p hp
   obtain ⟨As, ns, cs, Aa, na, ca, h0, h1, h2, h3, h4, h5, hss, hsi⟩ := hst
   have d0 : decide ((k : Int) < (n : Int)) = true := decide_eq_true (by omega)
   have e0 : decide (k < n) = true := decide_eq_true hlt
   have l0 : (k : Int) < n := by omega
   have z0 : (0 : Int) ≤ k := by omega
   have HU : Hid (wrap64 ((k : Int) + 1) = ((k + 1 : Nat) : Int)) := by show _ = _; have := HSZ.out; rw [IntWalk.wrap64_in _ (by omega)]; rfl
   have HTK : Hid (readsM (l.take (k + 1)) = rstep (readsM (l.take k)) p) := by show _ = _; rw [List.take_add_one, hp, Option.toList_some, readsM_snoc]
   obtain ⟨eR, hE⟩ : ∃ e, ((ba p.2.op).toList == [114, 101, 97, 100]) = e := ⟨_, rfl⟩
   have HER : Hid (eR = decide (p.2.op = readT)) := by show _ = _; rw [← hE]; exact lit_beq2
   have HBN := Lib.hid (BoxS.new wr (.int .i64 p.1) p.2.op p.2.dst p.2.file As ns cs Aa na ca)
   clear hss hsi hp hk hlt
   go_upto_region 4 with (fail)
   go_cut [5, 8] from 8 to 27 (fun s5 s8 wx => s5 = .pointer (some ⟨wr.heap.size, 0, none⟩) ∧ s8 = .int .i64 (k : Int) ∧ BoxS wx wr.heap.size p.2.op p.2.dst p.2.file As ns cs Aa na ca ∧ Below wr.heap.size wr wx)
   case first =>
    go_wp2_with fail
    go_meet
    exact ⟨rfl, rfl, HBN.out, (Below.refl _ wr).alloc (Nat.le_refl _) _⟩
   case rest =>
   obtain ⟨rfl, rfl, hbx, hbw⟩ := hcut
   have x1 := hbx.x1
   have x4 := hbx.x4
   have HSW := Lib.hid ((SS.of_own HO.out (by have := HQ.out; have := HSZ.out; omega)).below hbw)
   have HO1 : Hid (wc.ownsRow w.heap.size 9 1 (.slice A1 q c1) q ((readsM (l.take k)).map vS)) := own_below HO.out hbw
   have HB1 : Hid (Below w.heap.size w wc) := HB.out.trans (hbw.mono HB.out.size)
   have HIN := Lib.hid (containsT (c := c1) p.2.file HSW.out)
   obtain ⟨R, hR⟩ : ∃ R, readsM (l.take k) = R := ⟨_, rfl⟩
   rw [hR] at HQL HO1 HTK HIN HSW HO
   clear h0 h1 h2 h3 h4 h5 hR HBN
   generalize wr.heap.size = gb at *
   cases eR with
   | false =>
    have HST : Hid (readsM (l.take (k + 1)) = R) := by
     show _ = _
     rw [HTK.out]
     unfold rstep
     rw [if_neg (fun h => by have := HER.out; rw [decide_eq_true h.1] at this; cases this)]
    go_wp2_with fail
    go_roundw
    case rel => exact ⟨k + 1, _, q, c1, HLT.out, rfl, by first | rfl | rw [HU.out], by have := HQ.out; omega, by show _ = _; rw [HST.out]; exact HQL.out, by rw [HST.out]; exact HO1.out, HB1.out⟩
    case measure => first | exact meas_by (d := 1) HLT.out (by omega) | (rw [HU.out]; exact meas_by (d := 1) HLT.out (by omega))
   | true =>
    have hop : p.2.op = readT := of_decide_eq_true HER.out.symm
    obtain ⟨eC, hC⟩ : ∃ e, R.contains p.2.file = e := ⟨_, rfl⟩
    rw [hC] at HIN
    cases eC with
    | true =>
     have HST : Hid (readsM (l.take (k + 1)) = R) := by
      show _ = _
      rw [HTK.out]
      unfold rstep
      rw [if_neg (fun h => by rw [h.2] at hC; cases hC)]
     clear hop hC
     go_wp2_with (first | (go_at_call 37; refine HIN.out.mono ?_; rintro e w' ⟨rfl, rfl⟩) | fail)
     go_roundw
     case rel => exact ⟨k + 1, _, q, c1, HLT.out, rfl, by first | rfl | rw [HU.out], by have := HQ.out; omega, by show _ = _; rw [HST.out]; exact HQL.out, by rw [HST.out]; exact HO1.out, HB1.out⟩
     case measure => first | exact meas_by (d := 1) HLT.out (by omega) | (rw [HU.out]; exact meas_by (d := 1) HLT.out (by omega))
    | false =>
     have HST : Hid (readsM (l.take (k + 1)) = R ++ [p.2.file]) := by
      show _ = _
      rw [HTK.out]
      unfold rstep
      rw [if_pos ⟨hop, hC⟩]
     clear hop hC
     obtain ⟨fw, hfw⟩ : ∃ f, p.2.file = f := ⟨_, rfl⟩
     rw [hfw] at HST x4 HIN hbx
     clear hfw
     go_wp2_with (first | (go_at_call 37; refine HIN.out.mono ?_; rintro e w' ⟨rfl, rfl⟩) | (at_builtin; refine wpList_pushS rfl (.tmp 22) (.tmp 25) _ rfl w.heap.size Tryz.underlying34 A1 q c1 R rfl HO1.out 9 fw rfl (by have := HQ.out; have := HLT.out; have := HSZ.out; omega) HB1.out.size ?_) | fail)
     intro g cap w5 ho5 hb5 hlt5
     have HO5 := Lib.hid ho5
     have HB5 : Hid (Below w.heap.size w w5) := HB1.out.trans hb5
     clear ho5 hb5 hlt5
     go_wp2_with fail
     go_roundw
     case rel => exact ⟨k + 1, _, q + 1, cap, HLT.out, rfl, by first | rfl | rw [HU.out], by have := HQ.out; omega, by show _ = _; rw [HST.out, List.length_append, HQL.out]; rfl, by rw [HST.out, List.map_append]; exact HO5.out, HB5.out⟩
     case measure => first | exact meas_by (d := 1) HLT.out (by omega) | (rw [HU.out]; exact meas_by (d := 1) HLT.out (by omega))
  ·obtain rfl : k = n := by omega
   have d0 : decide ((k : Int) < (k : Int)) = false := decide_eq_false (by omega)
   have hl : l.take k = l := List.take_of_length_le (by rw [HLN.out]; exact Nat.le_refl _)
   rw [hl] at HQL HO
   clear hl hk hlt
   go_wp2_with fail
   go_ret
   have hsz := HQ.out
   have hss := SS.of_own HO.out (by have := HSZ.out; omega)
   refine ⟨A1, c1, ?_, ?_, HB.out⟩
   ·rw [HQL.out]; rfl
   ·rw [HQL.out]; exact hss
end Go.Proofs.YtoofgblmpjndjaaGreatDoor.Scr
set_option linter.unusedVariables false
set_option linter.unusedSimpArgs false
namespace Go.Proofs.YtoofgblmpjndjaaGreatDoor.Scr
open Go.RowKit K Go.Lib

def flatB (bs : List (Int × Int)) : List Int := bs.flatMap fun p => [p.1, p.2]
theorem flatB_len : ∀ (bs : List (Int × Int)), (flatB bs).length = 2 * bs.length
 | [] => rfl
 | p :: r => by
  show (p.1 :: p.2 :: flatB r).length = _
  rw [List.length_cons, List.length_cons, flatB_len r, List.length_cons]
  omega
theorem flatB_at : ∀ {bs : List (Int × Int)} {k : Nat} {p : Int × Int}, bs[k]? = some p → (flatB bs)[2 * k]? = some p.1 ∧ (flatB bs)[2 * k + 1]? = some p.2
 | q :: r, 0, p, h => by
  injection h with h
  subst h
  exact ⟨rfl, rfl⟩
 | q :: r, k + 1, p, h => by
  have := flatB_at (bs := r) (k := k) (p := p) h
  exact this
theorem fitM_len : ∀ {bs : List (Int × Int)} {a : List Int}, fitM bs a = true → a.length = bs.length
 | [], [], _ => rfl
 | [], _ :: _, h => by simp [fitM] at h
 | _ :: _, [], h => by simp [fitM] at h
 | b :: bs, x :: a, h => by
  have h' : (Scr.within b x && fitM bs a) = true := h
  rw [Bool.and_eq_true] at h'
  rw [List.length_cons, List.length_cons, fitM_len h'.2]
theorem fitM_iff : ∀ {bs : List (Int × Int)} {a : List Int}, a.length = bs.length → (fitM bs a = true ↔ ∀ (i : Nat) (b : Int × Int) (v : Int), bs[i]? = some b → a[i]? = some v → b.1 ≤ v ∧ v ≤ b.2)
 | [], [], _ => ⟨fun _ i b v h => by simp at h, fun _ => rfl⟩
 | [], _ :: _, h => by simp at h
 | _ :: _, [], h => by simp at h
 | b :: bs, x :: a, h => by
  have ih := fitM_iff (bs := bs) (a := a) (by simpa using h)
  have h' : fitM (b :: bs) (x :: a) = (Scr.within b x && fitM bs a) := rfl
  rw [h', Bool.and_eq_true, ih]
  constructor
  ·rintro ⟨h1, h2⟩ i c v hc hv
   cases i with
   | zero =>
    injection hc with hc
    injection hv with hv
    subst hc hv
    simpa [Scr.within] using h1
   | succ i => exact h2 i c v hc hv
  ·intro hh
   refine ⟨?_, fun i c v hc hv => hh (i + 1) c v hc hv⟩
   have := hh 0 b x rfl rfl
   simpa [Scr.within] using this
def WithinP (w : World) (r : Bool) (e : Ending) (w' : World) : Prop := w = w' ∧ e = (if r then .returned (.tuple #[]) else .panicked bk)
set_option maxHeartbeats 4000000 in
theorem within_any {A A2 : Option Addr} {n c m c2 : Nat} {a : List Int} {bs : List (Int × Int)} (w : World) (HA : SI w .i64 A n a) (HB : SI w .i64 A2 m (flatB bs)) :
  Calls Tryz.prog 52 #[.slice A n c, .slice A2 m c2] w (WithinP w (fitM bs a)) := by
 obtain ⟨res, hres⟩ : ∃ r, fitM bs a = r := ⟨_, rfl⟩
 rw [hres]
 have HR := Lib.hid hres
 have HAA := Lib.hid HA
 have HBB := Lib.hid HB
 have HN := Lib.hid HA.len
 have HM : Hid (2 * bs.length = m) := by show _ = _; rw [← flatB_len]; exact HB.len
 have HSZ : Hid (n * 8 ≤ 140737488351232) := HA.big
 have HSM : Hid (m * 8 ≤ 140737488351232) := HB.big
 have hn1 : n * 8 ≤ 140737488351232 := HA.big
 have hm1 : m * 8 ≤ 140737488351232 := HB.big
 have HY := Lib.hid (must_yes w)
 have HX := Lib.hid (must_no w)
 have w0 : wrap64 (2 * (n : Int)) = 2 * (n : Int) := IntWalk.wrap64_in _ (by omega)
 have w1 : IntKind.i64.wrap (2 * (n : Int)) = 2 * (n : Int) := by rw [IntKind.wrap_i64]; omega
 clear HA HB hres hn1 hm1
 by_cases hnm : 2 * n = m
 ·have t0 : ((2 * (n : Int)) == (m : Int)) = true := by simp; omega
  have HNM := Lib.hid hnm
  clear hnm
  go_enter Tryz.func52, Tryz.ntmps52
  go_wp2_with (first | (go_at_call 45; refine HY.out.mono ?_; rintro e w' ⟨rfl, rfl⟩) | fail)
  clear t0 w0 w1
  have HLB : Hid (a.length = bs.length) := by show _ = _; have := HN.out; have := HM.out; have := HNM.out; omega
  go_loopw [4, 5, 15] (fun s4 s5 s15 wr => ∃ k : Nat, k ≤ n ∧ s15 = .int .i64 (k : Int) ∧ w = wr ∧ Hid (∀ (i : Nat) (b : Int × Int) (v : Int), i < k → bs[i]? = some b → a[i]? = some v → b.1 ≤ v ∧ v ≤ b.2)) (fun _ _ s15 _ => n - (intOf s15).toNat)
  case atStart => exact ⟨0, by omega, rfl, rfl, by show ∀ _ _ _, _; intro i b v hi; omega⟩
  case round =>
   obtain ⟨k, hk, rfl, rfl, HIN⟩ := hrel
   by_cases hlt : k < n
   ·have HLT := Lib.hid hlt
    have hkn : k * 8 ≤ 140737488351232 := by have := HSZ.out; omega
    obtain ⟨k2, hk2⟩ : ∃ k2, 2 * k = k2 := ⟨_, rfl⟩
    obtain ⟨k3, hk3⟩ : ∃ k3, k2 + 1 = k3 := ⟨_, rfl⟩
    have hm2 : k3 < m := by have := HNM.out; omega
    have hk8 : k3 * 8 ≤ 140737488351232 := by have := HSM.out; omega
    obtain ⟨p, hp⟩ : ∃ p, bs[k]? = some p := ⟨bs[k]'(by have := HLB.out; have := HN.out; omega), List.getElem?_eq_getElem _⟩
    obtain ⟨f1, f2⟩ := flatB_at hp
    rw [hk2] at f1
    rw [hk2, hk3] at f2
    obtain ⟨b, o, v, rfl, hc, hv, -⟩ := HAA.out.cells hlt
    obtain ⟨b2, o2, v1, rfl, hc1, hv1, -⟩ := HBB.out.cells (i := k2) (by omega)
    obtain ⟨b2', o2', v2, e2, hc2, hv2, -⟩ := HBB.out.cells (i := k3) hm2
    injection e2 with e2
    injection e2 with e3 e4
    subst e3 e4
    have g1 : v1 = p.1 := by have := hv1.out; rw [f1] at this; injection this with this; exact this.symm
    have g2 : v2 = p.2 := by have := hv2.out; rw [f2] at this; injection this with this; exact this.symm
    have HG : Hid (v1 = p.1 ∧ v2 = p.2) := ⟨g1, g2⟩
    have HP := Lib.hid hp
    have d0 : decide ((k : Int) < (n : Int)) = true := decide_eq_true (by omega)
    have e0 : decide (k < n) = true := decide_eq_true hlt
    have l0 : (k : Int) < n := by omega
    have z0 : (0 : Int) ≤ k := by omega
    have l2 : (k2 : Int) < m := by omega
    have z2 : (0 : Int) ≤ k2 := by omega
    have l3 : (k3 : Int) < m := by omega
    have z3 : (0 : Int) ≤ k3 := by omega
    have w2 : wrap64 (2 * (k : Int)) = (k2 : Int) := by rw [IntWalk.wrap64_in _ (by omega)]; omega
    have w3 : wrap64 ((k2 : Int) + 1) = (k3 : Int) := by rw [IntWalk.wrap64_in _ (by omega)]; omega
    have v3 : IntKind.i64.wrap (2 * (k : Int)) = (k2 : Int) := by rw [IntKind.wrap_i64]; omega
    have v4 : IntKind.i64.wrap ((k2 : Int) + 1) = (k3 : Int) := by rw [IntKind.wrap_i64]; omega
    have HU : Hid (wrap64 ((k : Int) + 1) = ((k + 1 : Nat) : Int)) := by show _ = _; rw [IntWalk.wrap64_in _ (by omega)]; rfl
    clear g1 g2 f1 f2 hv1 hv2 hp hk2 hk3 hm2 hk8 hkn hk hlt
    have HBAD : Hid (¬ (v1 ≤ v ∧ v ≤ v2) → res = false) := by
     show _ → _
     intro h
     rw [← HR.out]
     refine Bool.eq_false_iff.2 fun hf => h ?_
     have := (fitM_iff HLB.out).1 hf k p v HP.out hv.out
     rw [HG.out.1, HG.out.2]
     exact this
    by_cases h1 : v1 ≤ v
    ·have t1 : decide (v1 ≤ v) = true := decide_eq_true h1
     by_cases h2 : v ≤ v2
     ·have t2 : decide (v ≤ v2) = true := decide_eq_true h2
      have HOK : Hid (v1 ≤ v ∧ v ≤ v2) := ⟨h1, h2⟩
      clear h1 h2
      go_wp2_with (first | (go_at_call 45; refine HY.out.mono ?_; rintro e w' ⟨rfl, rfl⟩) | fail)
      go_roundw
      case rel =>
       refine ⟨k + 1, HLT.out, by first | rfl | rw [HU.out], by first | rfl | trivial, ?_⟩
       show ∀ _ _ _, _
       intro i b v' hi hb hv'
       rcases Nat.lt_or_ge i k with h | h
       ·exact HIN.out i b v' h hb hv'
       ·obtain rfl : i = k := by omega
        rw [HP.out] at hb
        rw [hv.out] at hv'
        injection hb with hb
        injection hv' with hv'
        subst hb hv'
        rw [← HG.out.1, ← HG.out.2]
        exact HOK.out
      case measure => first | exact meas_by (d := 1) HLT.out (by omega) | (rw [HU.out]; exact meas_by (d := 1) HLT.out (by omega))
     ·have t2 : decide (v ≤ v2) = false := decide_eq_false h2
      have HE : Hid (res = false) := HBAD.out (fun h => h2 h.2)
      clear h1 h2
      go_wp2_with (first | (go_at_call 45; refine HX.out.mono ?_; rintro e w' ⟨rfl, rfl⟩) | fail)
      exact bodyPost_panic ⟨rfl, by rw [HE.out]; rfl⟩
    ·have t1 : decide (v1 ≤ v) = false := decide_eq_false h1
     have HE : Hid (res = false) := HBAD.out (fun h => h1 h.1)
     clear h1
     go_wp2_with (first | (go_at_call 45; refine HX.out.mono ?_; rintro e w' ⟨rfl, rfl⟩) | fail)
     exact bodyPost_panic ⟨rfl, by rw [HE.out]; rfl⟩
   ·obtain rfl : k = n := by omega
    have d0 : decide ((k : Int) < (k : Int)) = false := decide_eq_false (by omega)
    have HE : Hid (res = true) := by
     show _ = _
     rw [← HR.out]
     exact (fitM_iff HLB.out).2 fun i b v hb hv => HIN.out i b v (by have := (List.getElem?_eq_some_iff.1 hv).1; have := HN.out; omega) hb hv
    clear hlt hk
    go_wp2_with fail
    go_end0
    exact ⟨rfl, by rw [HE.out]; rfl⟩
 ·have t0 : ((2 * (n : Int)) == (m : Int)) = false := by simp; omega
  have HE : Hid (res = false) := by
   show _ = _
   rw [← HR.out]
   refine Bool.eq_false_iff.2 fun hf => hnm ?_
   have := fitM_len hf
   have := HN.out
   have := HM.out
   omega
  clear hnm
  go_enter Tryz.func52, Tryz.ntmps52
  go_wp2_with (first | (go_at_call 45; refine HX.out.mono ?_; rintro e w' ⟨rfl, rfl⟩) | fail)
  exact bodyPost_panic ⟨rfl, by rw [HE.out]; rfl⟩
end Go.Proofs.YtoofgblmpjndjaaGreatDoor.Scr
set_option linter.unusedVariables false
set_option linter.unusedSimpArgs false
namespace Go.Proofs.YtoofgblmpjndjaaGreatDoor.Scr
open Go.RowKit K Go.Lib

def zero3 : Array Value := #[.string ⟨#[]⟩, .slice none 0 0, .nilFunc]
theorem zero3_one : zero3.all (·.oneCell') = true := by simp [zero3, Value.oneCell']
theorem info3 : (Tryz.prog.info? 123).map (·.size) = some 3 := by kernel_rfl
def inB (b : List (Int × Int)) (a : List Int) (j : Nat) : Bool := decide ((b.getD j (0, 0)).1 ≤ a.getD j 0) && decide (a.getD j 0 ≤ (b.getD j (0, 0)).2)
theorem fit_all {b : List (Int × Int)} {a : List Int} (hl : a.length = b.length) : fitM b a = true ↔ ∀ j, j < b.length → inB b a j = true := by
 rw [fitM_iff hl]
 constructor
 ·intro h j hj
  have := h j _ _ (List.getElem?_eq_getElem hj) (List.getElem?_eq_getElem (by omega : j < a.length))
  unfold inB
  rw [List.getD_eq_getElem?_getD, List.getD_eq_getElem?_getD, List.getElem?_eq_getElem hj, List.getElem?_eq_getElem (by omega : j < a.length)]
  simp [this.1, this.2]
 ·intro h j p v hp hv
  obtain ⟨hj, rfl⟩ := List.getElem?_eq_some_iff.1 hp
  have := h j hj
  unfold inB at this
  rw [List.getD_eq_getElem?_getD, List.getD_eq_getElem?_getD, hp, hv] at this
  simpa using this
theorem fit_len {b : List (Int × Int)} {a : List Int} (h : a.length ≠ b.length) : fitM b a = false := Bool.eq_false_iff.2 fun e => h (fitM_len e)
theorem pts_at : ∀ (k : Nat), k < 20 → pts[k]? = some (pts.getD k ([], [])) := by decide
theorem pts_bl : ∀ k, k < 20 → (pts.getD k ([], [])).2.length ≤ 11 := by decide
theorem findM_row {t : List (Tx × List (Int × Int))} {op : Tx} {k : Nat} {p : Tx × List (Int × Int)} (hp : t[k]? = some p) (hno : ∀ (i : Nat) (q : Tx × List (Int × Int)), i < k → t[i]? = some q → q.1 ≠ op) (he : p.1 = op) : findM t op = some p.2 := by
 unfold findM
 have : t.find? (fun p => p.1 == op) = some p := by
  rw [List.find?_eq_some_iff_getElem]
  obtain ⟨hk, rfl⟩ := List.getElem?_eq_some_iff.1 hp
  refine ⟨by simpa using he, k, hk, rfl, fun j hj => ?_⟩
  have := hno j _ hj (List.getElem?_eq_getElem (by omega))
  simpa using this
 rw [this]
 rfl
theorem findM_no {t : List (Tx × List (Int × Int))} {op : Tx} (hno : ∀ (i : Nat) (q : Tx × List (Int × Int)), t[i]? = some q → q.1 ≠ op) : findM t op = none := by
 unfold findM
 rw [Option.map_eq_none_iff, List.find?_eq_none]
 intro p hp
 obtain ⟨i, hi⟩ := List.mem_iff_getElem?.1 hp
 have := hno i p hi
 simpa using this
def FindQ (w : World) (v : Int) (e : Ending) (w' : World) : Prop := ∃ x y z : Value, e = .returned (.tuple #[.agg #[x, y, z], .int .i64 v]) ∧ (#[x, y, z] : Array Value).all (·.oneCell') = true ∧ Below w.heap.size w w'
set_option maxRecDepth 20000 in
set_option maxHeartbeats 4000000 in
theorem pfind_any {op : ByteArray} {A : Option Addr} {n c : Nat} {a : List Int} (w : World) (HA : SI w .i64 A n a) : Calls Tryz.prog 104 #[.string op, .slice A n c] w (FindQ w (ptsM op.data.toList a)) := by
 have hop := (ba_of op).symm
 have m1 : (op.toList == [108, 101, 118, 101, 108, 115]) = (op.data.toList == [108, 101, 118, 101, 108, 115]) := lit_beq hop
 have m2 : (op.toList == [115, 113, 117, 101, 101, 122, 101]) = (op.data.toList == [115, 113, 117, 101, 101, 122, 101]) := lit_beq hop
 have HN := Lib.hid HA.len
 have HBG := Lib.hid HA.big
 have HAA := Lib.hid HA
 obtain ⟨r, hr⟩ : ∃ r, ptsM op.data.toList a = r := ⟨_, rfl⟩
 rw [hr]
 have HR := Lib.hid hr
 clear HA hr hop
 go_enter Tryz.func104, Tryz.ntmps104
 go_wp2_with fail
 refine (pops_any _).mono ?_
 rintro e wb ⟨g, rfl, hgl, hg, hbb, hops⟩
 have hs0 : w.heap.size < (w.alloc (.cells zero3 123)).heap.size := by simp
 have z0 : wb.heap[w.heap.size]? = some (.cells zero3 123 (0, 0)) := (hbb.block _ hs0).trans (heap_alloc_new w _)
 have Z0 := Lib.hid z0
 have HBW : Hid (Below w.heap.size w wb) := ((Below.refl w.heap.size w).alloc (Nat.le_refl _) _).trans (hbb.mono (Nat.le_of_lt hs0))
 have HG := Lib.hid hg
 have HOPS := Lib.hid hops
 have HZL : Hid (w.heap.size < wb.heap.size) := (Array.getElem?_eq_some_iff.1 z0).1
 clear z0 hbb hops hgl hg hs0
 have hpl : pts.length = 20 := rfl
 rw [hpl]
 clear hpl
 go_wp2_with fail
 go_loopg [12] 20 (fun gh s12 wr => ∃ k : Nat, k + gh = 20 ∧ s12 = .int .i64 k ∧ (∀ (i : Nat) (q : Tx × List (Int × Int)), i < k → pts[i]? = some q → q.1 ≠ op.data.toList) ∧ Below wb.heap.size wb wr)
 case atStart => exact ⟨0, by omega, rfl, fun i q hi => by omega, Below.refl _ _⟩
 case round =>
  obtain ⟨k, hkg, rfl, hno, hbr⟩ := hrel
  have HNO := Lib.hid hno
  have HBR := Lib.hid hbr
  have HZ : Hid (wr.heap[w.heap.size]? = some (.cells zero3 123 (0, 0))) := (hbr.block _ HZL.out).trans Z0.out
  have HB : Hid (Below w.heap.size w wr) := HBW.out.trans (hbr.mono (Nat.le_of_lt HZL.out))
  have HWL : Hid (w.heap.size < wr.heap.size) := Nat.lt_of_lt_of_le HZL.out hbr.size
  clear hno hbr
  cases gk with
  | zero =>
   obtain rfl : k = 20 := by omega
   simp only [Int.cast_ofNat_Int]
   have HE : Hid (r = 8) := by
    show _ = _
    rw [← HR.out]
    unfold ptsM
    rw [findM_no (fun i q hq => HNO.out i q (by have := (List.getElem?_eq_some_iff.1 hq).1; exact this) hq)]
   go_wp2_with (refine wpList_store_row rfl 123 (.tmp 4) (.tmp 90) rfl w.heap.size zero3 rfl rfl 123 zero3 HZ.out info3 rfl zero3_one ?_)
   try rw [Exit.noGoto_ret]
   refine bodyPost_ret (Ard.results_row_tmp rfl _ _ w.heap.size 123 zero3 (0, 0) _ rfl (setRow_heap _ _ _ _ _ _ HZ.out) Tryz.underlying123 rfl info3) rfl ?_
   exact ⟨_, _, _, by rw [HE.out]; rfl, zero3_one, below_setRow HB.out (Nat.le_refl _) _⟩
  | succ gko =>
   obtain ⟨wo, rfl⟩ : ∃ wo, wo = wr := ⟨_, rfl⟩
   have hk20 : k < 20 := by omega
   obtain ⟨p, hp⟩ : ∃ p, pts[k]? = some p := ⟨_, pts_at k hk20⟩
   have hbl : p.2.length ≤ 11 := by
    have := pts_bl k hk20
    rw [pts_at k hk20] at hp
    injection hp with hp
    rw [hp] at this
    exact this
   obtain ⟨B, rr, hrow⟩ := HOPS.out k p hp
   have hrow2 := hrow.on HG.out HBR.out
   obtain ⟨fv, rfl⟩ : ∃ f, rr = [f] := by
    have := hrow2.len
    match rr, this with
    | [f], _ => exact ⟨f, rfl⟩
   have z0 := hrow2.cs 0 _ rfl
   have z1 := hrow2.cs 1 _ rfl
   have z2 := hrow2.cs 2 _ rfl
   have HBS := Lib.hid hrow2.bs
   have hone := hrow2.one
   obtain ⟨bl, hbl2⟩ : ∃ b, p.2.length = b := ⟨_, rfl⟩
   obtain ⟨zn, hzn⟩ : ∃ z, ba p.1 = z := ⟨_, rfl⟩
   rw [Nat.add_zero, hzn] at z0
   rw [hbl2] at z1 hbl
   have HBL2 := Lib.hid hbl2
   have HBLE := Lib.hid hbl
   have HP := Lib.hid hp
   have hcs : (#[.string zn, .slice B bl bl, fv] : Array Value).all (·.oneCell') = true := by
    simpa [Value.oneCell'] using hone
   have HCS := Lib.hid hcs
   have HOPL : Hid ((zn.toList == op.toList) = decide (p.1 = op.data.toList)) := by
    show _ = _
    rw [← hzn, tl_ba, ByteArray.toList_eq]
    by_cases h : p.1 = op.data.toList <;> simp [h]
   have d0 : decide ((k : Int) < 20) = true := decide_eq_true (by omega)
   have i0 : (0 : Int) ≤ (k : Int) := by omega
   have i1 : (k : Int) < 20 := by omega
   clear hrow hrow2 hone hcs hp hbl2 hzn hbl
   by_cases he : p.1 = op.data.toList
   ·have hnn : (zn.toList == op.toList) = true := by rw [HOPL.out]; exact decide_eq_true he
    have hnn2 : (zn.toList != op.toList) = false := by unfold bne; rw [hnn]; rfl
    have HF : Hid (findM pts op.data.toList = some p.2) := findM_row HP.out HNO.out he
    have HE0 : Hid (r = if fitM p.2 a && !moreB op.data.toList a then 0 else 190) := by show _ = _; rw [← HR.out]; unfold ptsM; rw [HF.out]
    obtain ⟨e25, h25⟩ : ∃ e, ((n : Int) == (bl : Int)) = e := ⟨_, rfl⟩
    have HE25 : Hid (e25 = decide (n = bl)) := by show _ = _; rw [← h25]; by_cases h : n = bl <;> simp [h]; omega
    have hfl : n ≠ bl → fitM p.2 a = false := fun h => fit_len (by rw [HN.out, HBL2.out]; exact h)
    have HFL := Lib.hid hfl
    clear he hfl
    go_wp2_with (refine Ard.wpList_store_rowW rfl 123 (.tmp 7) (.tmp 15) rfl wo.heap.size #[.string zn, .slice B bl bl, fv] rfl rfl 123 zero3 (heap_alloc_new wo _) info3 rfl HCS.out wo.heap.size wo ((Below.refl _ _).alloc (Nat.le_refl _) _) (Nat.le_refl _) ?_; intro W HW1 HW2 HW3; have y0 : W.cell? ⟨wo.heap.size, 0, none⟩ = some (.string zn) := Ard.row_cell HW1.out 0; have y1 : W.cell? ⟨wo.heap.size, 1, none⟩ = some (.slice B bl bl) := Ard.row_cell HW1.out 1)
    have HR1 : Hid (∀ m, (W.drewN m).heap[wo.heap.size]? = some (.cells #[.string zn, .slice B bl bl, fv] 123 (0, 0))) := fun _ => HW1.out
    have HRZ : Hid (∀ m, (W.drewN m).heap[w.heap.size]? = some (.cells zero3 123 (0, 0))) := fun _ => (HW2.out.block _ HWL.out).trans HZ.out
    have HBWW : Hid (∀ m, Below w.heap.size w (W.drewN m)) := fun m => Go.Proofs.YtoofgblmpjndjaaGreatDoor.K.below_drewN (HB.out.trans (HW2.out.mono HB.out.size)) m
    have HBWO : Hid (Below w.heap.size w W) := HBWW.out 0
    go_loopw [8, 9] (fun s8 s9 wx => ∃ (j q : Nat) (okb : Bool), s9 = .int .i64 j ∧ s8 = .bool okb ∧ W.drewN q = wx ∧ j ≤ 11 ∧ Hid (okb = true → n = bl ∧ j ≤ n ∧ ∀ i, i < j → inB p.2 a i = true) ∧ Hid (okb = false → fitM p.2 a = false)) (fun _ s9 _ => 12 - (intOf s9).toNat)
    case atStart => exact ⟨0, 0, e25, rfl, rfl, rfl, by omega, fun h => ⟨of_decide_eq_true (HE25.out.symm.trans h), by omega, fun i hi => by omega⟩, fun h => HFL.out (of_decide_eq_false (HE25.out.symm.trans h))⟩
    case round =>
     clear h25
     obtain ⟨j, q, okb, rfl, rfl, rfl, hj11, HOK, HNO2⟩ := hrel
     cases okb with
     | false =>
      have HE : Hid (r = 190) := by show _ = _; rw [HE0.out, HNO2.out rfl]; rfl
      go_wp2_with fail
      go_quiet (fail)
      (try rw [World.drewN_drewN])
      go_wp2_with (first | (refine wpList_load_row rfl 123 (.tmp 7) rfl wo.heap.size rfl 123 #[.string zn, .slice B bl bl, fv] (0, 0) _ (HR1.out _) Tryz.underlying123 rfl info3 ?_) | (refine wpList_store_row rfl 123 (.tmp 4) (.tmp 87) rfl w.heap.size #[.string zn, .slice B bl bl, fv] rfl rfl 123 zero3 (HRZ.out _) info3 rfl HCS.out ?_))
      try rw [Exit.noGoto_ret]
      refine bodyPost_ret (Ard.results_row_tmp rfl _ _ w.heap.size 123 #[.string zn, .slice B bl bl, fv] (0, 0) _ rfl (setRow_heap _ _ _ _ _ _ (HRZ.out _)) Tryz.underlying123 rfl info3) rfl ?_
      exact ⟨_, _, _, by rw [HE.out]; rfl, HCS.out, below_setRow (HBWW.out _) (Nat.le_refl _) _⟩
     | true =>
      obtain ⟨hnb, hjn, hin⟩ := HOK.out rfl
      have HIN := Lib.hid hin
      have HNB := Lib.hid hnb
      clear hin
      by_cases hlt : j < n
      ·have d1 : decide ((j : Int) < (n : Int)) = true := decide_eq_true (by omega)
       have e1 : decide (j < n) = true := decide_eq_true hlt
       have j0 : (0 : Int) ≤ (j : Int) := by omega
       have j1 : (j : Int) < (n : Int) := by omega
       have j2 : (j : Int) < (bl : Int) := by omega
       obtain ⟨p1, p2⟩ := Ard.pairCells_at p.2 j (by rw [HBL2.out]; omega)
       obtain ⟨b, off, rfl, hc1⟩ := HBS.out _ _ p1
       obtain ⟨b', off', e', hc2⟩ := HBS.out _ _ p2
       injection e' with e'
       injection e' with e1' e2'
       subst e1' e2'
       have hbo : b < wo.heap.size := World.block_lt_of_cell? wo _ hc1
       have x1 := (HW2.out.cell (p := ⟨b, off + j * 2, none⟩) hbo).trans hc1
       have x2 := (HW2.out.cell (p := ⟨b, off + (j * 2 + 1), none⟩) hbo).trans hc2
       rw [← Nat.add_assoc] at x2
       obtain ⟨ab, ao, av, rfl, ac, hav, -⟩ := (HAA.out.below HBWO.out (Nat.le_refl _)).cells (i := j) hlt
       have HINJ : Hid (inB p.2 a j = (decide ((p.2.getD j (0, 0)).1 ≤ av) && decide (av ≤ (p.2.getD j (0, 0)).2))) := by
        show _ = _
        unfold inB
        rw [Ard.getD_at hav.out]
       generalize (p.2.getD j (0, 0)).1 = lo at x1 HINJ
       generalize (p.2.getD j (0, 0)).2 = hi at x2 HINJ
       have HWJ : Hid (wrap64 ((j : Int) + 1) = ((j + 1 : Nat) : Int)) := by show _ = _; rw [IntWalk.wrap64_in _ (by omega)]; rfl
       have HLT := Lib.hid hlt
       have HBAD : Hid (inB p.2 a j = false → fitM p.2 a = false) := by
        show _ → _
        intro h
        refine Bool.eq_false_iff.2 fun hf => ?_
        have := (fit_all (by rw [HN.out, HBL2.out]; exact HNB.out)).1 hf j (by rw [HBL2.out]; omega)
        rw [h] at this
        cases this
       have HBL3 : Hid (j < 11) := by show _ < _; have := HBLE.out; omega
       have HINS : Hid (inB p.2 a j = true → ∀ i, i < j + 1 → inB p.2 a i = true) := by
        show _ → _
        intro h i hi
        rcases Nat.lt_or_ge i j with h2 | h2
        ·exact HIN.out i h2
        ·obtain rfl : i = j := by omega
         exact h
       clear hc1 hc2 hbo p1 p2 hav hnb hjn hj11 hlt
       by_cases h1 : lo ≤ av
       ·have t1 : decide (lo ≤ av) = true := decide_eq_true h1
        by_cases h2 : av ≤ hi
        ·have t2 : decide (av ≤ hi) = true := decide_eq_true h2
         have HI2 : Hid (inB p.2 a j = true) := by show _ = _; rw [HINJ.out, t1, t2]; rfl
         clear h1 h2
         go_wp2_with fail
         go_quiet (fail)
         go_wp2_with fail
         go_roundw
         case rel => exact ⟨j + 1, q + nq, true, by first | rw [HWJ.out] | rfl, rfl, by first | rfl | rw [World.drewN_drewN], HBL3.out, fun _ => ⟨HNB.out, HLT.out, HINS.out HI2.out⟩, fun h => (by cases h)⟩
         case measure => (try rw [HWJ.out]); simp [intOf]; have := HBL3.out; omega
        ·have t2 : decide (av ≤ hi) = false := decide_eq_false h2
         have HI2 : Hid (inB p.2 a j = false) := by show _ = _; rw [HINJ.out, t2, Bool.and_false]
         clear h1 h2
         go_wp2_with fail
         go_quiet (fail)
         go_wp2_with fail
         go_roundw
         case rel => exact ⟨j + 1, q + nq, false, by first | rw [HWJ.out] | rfl, rfl, by first | rfl | rw [World.drewN_drewN], HBL3.out, fun h => (by cases h), fun _ => HBAD.out HI2.out⟩
         case measure => (try rw [HWJ.out]); simp [intOf]; have := HBL3.out; omega
       ·have t1 : decide (lo ≤ av) = false := decide_eq_false h1
        have HI2 : Hid (inB p.2 a j = false) := by show _ = _; rw [HINJ.out, t1, Bool.false_and]
        clear h1
        go_wp2_with fail
        go_quiet (fail)
        go_wp2_with fail
        go_roundw
        case rel => exact ⟨j + 1, q + nq, false, by first | rw [HWJ.out] | rfl, rfl, by first | rfl | rw [World.drewN_drewN], HBL3.out, fun h => (by cases h), fun _ => HBAD.out HI2.out⟩
        case measure => (try rw [HWJ.out]); simp [intOf]; have := HBL3.out; omega
      ·obtain rfl : j = n := by omega
       have d1 : decide ((j : Int) < (j : Int)) = false := decide_eq_false (by omega)
       have HFT : Hid (fitM p.2 a = true) := (fit_all (by rw [HN.out, HBL2.out]; exact HNB.out)).2 (fun i hi => HIN.out i (by rw [HBL2.out] at hi; have := HNB.out; omega))
       have HE1 : Hid (r = if !moreB op.data.toList a then 0 else 190) := by show _ = _; rw [HE0.out, HFT.out, Bool.true_and]
       have hlv : op.data.toList = [108, 101, 118, 101, 108, 115] ∨ op.data.toList = [115, 113, 117, 101, 101, 122, 101] → j = 2 := fun h => by
        have hb2 : p.2.length = 2 := by
         have hf := HF.out
         rcases h with h | h <;> (rw [h] at hf; injection hf with hf; rw [← hf]; rfl)
        rw [HBL2.out] at hb2
        omega
       have HLV := Lib.hid hlv
       clear hlv hnb hjn hj11 hlt
       obtain ⟨q1, hq1⟩ : ∃ e, (op.data.toList == [108, 101, 118, 101, 108, 115]) = e := ⟨_, rfl⟩
       obtain ⟨q2, hq2⟩ : ∃ e, (op.data.toList == [115, 113, 117, 101, 101, 122, 101]) = e := ⟨_, rfl⟩
       have n1 : (op.toList == [108, 101, 118, 101, 108, 115]) = q1 := m1.trans hq1
       have n2 : (op.toList == [115, 113, 117, 101, 101, 122, 101]) = q2 := m2.trans hq2
       have HM : Hid (moreB op.data.toList a = ((q1 && decide (a.getD 1 0 ≤ a.getD 0 0)) || (q2 && decide (a.getD 1 0 < a.getD 0 0)))) := by show _ = _; unfold moreB; rw [hq1, hq2]
       have HQ : Hid (q1 = true ∨ q2 = true → j = 2) := by
        show _ → _
        rintro (h | h)
        ·exact HLV.out (.inl (by rw [h] at hq1; simpa using hq1))
        ·exact HLV.out (.inr (by rw [h] at hq2; simpa using hq2))
       have HQQ : Hid (q1 = true → q2 = false) := by
        show _ → _
        intro h
        rw [h] at hq1
        rw [← hq2, show op.data.toList = [108, 101, 118, 101, 108, 115] by simpa using hq1]
        decide
       clear hq1 hq2 m1 m2
       cases q1 with
       | true =>
        obtain rfl : q2 = false := HQQ.out rfl
        obtain rfl := HQ.out (.inl rfl)
        obtain ⟨ab, ao, a0, rfl, ac0, ha0, -⟩ := (HAA.out.below HBWO.out (Nat.le_refl _)).cells (i := 0) (by omega)
        obtain ⟨ab', ao', a1, e', ac1, ha1, -⟩ := (HAA.out.below HBWO.out (Nat.le_refl _)).cells (i := 1) (by omega)
        injection e' with e'
        injection e' with e1' e2'
        subst e1' e2'
        rw [Nat.add_zero] at ac0
        have HM2 : Hid (moreB op.data.toList a = decide (a1 ≤ a0)) := by show _ = _; rw [HM.out, Ard.getD_at ha0.out, Ard.getD_at ha1.out]; simp
        clear ha0 ha1
        by_cases hle : a1 ≤ a0
        ·have t1 : decide (a1 ≤ a0) = true := decide_eq_true hle
         have HE : Hid (r = 190) := by show _ = _; rw [HE1.out, HM2.out, t1]; rfl
         clear hle
         go_wp2_with fail
         go_quiet (fail)
         (try rw [World.drewN_drewN])
         go_wp2_with (first | (refine wpList_load_row rfl 123 (.tmp 7) rfl wo.heap.size rfl 123 #[.string zn, .slice B bl bl, fv] (0, 0) _ (HR1.out _) Tryz.underlying123 rfl info3 ?_) | (refine wpList_store_row rfl 123 (.tmp 4) (.tmp 87) rfl w.heap.size #[.string zn, .slice B bl bl, fv] rfl rfl 123 zero3 (HRZ.out _) info3 rfl HCS.out ?_))
         try rw [Exit.noGoto_ret]
         refine bodyPost_ret (Ard.results_row_tmp rfl _ _ w.heap.size 123 #[.string zn, .slice B bl bl, fv] (0, 0) _ rfl (setRow_heap _ _ _ _ _ _ (HRZ.out _)) Tryz.underlying123 rfl info3) rfl ?_
         exact ⟨_, _, _, by rw [HE.out]; rfl, HCS.out, below_setRow (HBWW.out _) (Nat.le_refl _) _⟩
        ·have t1 : decide (a1 ≤ a0) = false := decide_eq_false hle
         have HE : Hid (r = 0) := by show _ = _; rw [HE1.out, HM2.out, t1]; rfl
         clear hle
         go_wp2_with fail
         go_quiet (fail)
         (try rw [World.drewN_drewN])
         go_wp2_with (first | (refine wpList_load_row rfl 123 (.tmp 7) rfl wo.heap.size rfl 123 #[.string zn, .slice B bl bl, fv] (0, 0) _ (HR1.out _) Tryz.underlying123 rfl info3 ?_) | (refine wpList_store_row rfl 123 (.tmp 4) (.tmp 88) rfl w.heap.size #[.string zn, .slice B bl bl, fv] rfl rfl 123 zero3 (HRZ.out _) info3 rfl HCS.out ?_))
         try rw [Exit.noGoto_ret]
         refine bodyPost_ret (Ard.results_row_tmp rfl _ _ w.heap.size 123 #[.string zn, .slice B bl bl, fv] (0, 0) _ rfl (setRow_heap _ _ _ _ _ _ (HRZ.out _)) Tryz.underlying123 rfl info3) rfl ?_
         exact ⟨_, _, _, by rw [HE.out]; rfl, HCS.out, below_setRow (HBWW.out _) (Nat.le_refl _) _⟩
       | false =>
        cases q2 with
        | true =>
         obtain rfl := HQ.out (.inr rfl)
         obtain ⟨ab, ao, a0, rfl, ac0, ha0, -⟩ := (HAA.out.below HBWO.out (Nat.le_refl _)).cells (i := 0) (by omega)
         obtain ⟨ab', ao', a1, e', ac1, ha1, -⟩ := (HAA.out.below HBWO.out (Nat.le_refl _)).cells (i := 1) (by omega)
         injection e' with e'
         injection e' with e1' e2'
         subst e1' e2'
         rw [Nat.add_zero] at ac0
         have HM2 : Hid (moreB op.data.toList a = decide (a1 < a0)) := by show _ = _; rw [HM.out, Ard.getD_at ha0.out, Ard.getD_at ha1.out]; simp
         clear ha0 ha1
         by_cases hle : a1 < a0
         ·have t1 : decide (a1 < a0) = true := decide_eq_true hle
          have HE : Hid (r = 190) := by show _ = _; rw [HE1.out, HM2.out, t1]; rfl
          clear hle
          go_wp2_with fail
          go_quiet (fail)
          (try rw [World.drewN_drewN])
          go_wp2_with (first | (refine wpList_load_row rfl 123 (.tmp 7) rfl wo.heap.size rfl 123 #[.string zn, .slice B bl bl, fv] (0, 0) _ (HR1.out _) Tryz.underlying123 rfl info3 ?_) | (refine wpList_store_row rfl 123 (.tmp 4) (.tmp 87) rfl w.heap.size #[.string zn, .slice B bl bl, fv] rfl rfl 123 zero3 (HRZ.out _) info3 rfl HCS.out ?_))
          try rw [Exit.noGoto_ret]
          refine bodyPost_ret (Ard.results_row_tmp rfl _ _ w.heap.size 123 #[.string zn, .slice B bl bl, fv] (0, 0) _ rfl (setRow_heap _ _ _ _ _ _ (HRZ.out _)) Tryz.underlying123 rfl info3) rfl ?_
          exact ⟨_, _, _, by rw [HE.out]; rfl, HCS.out, below_setRow (HBWW.out _) (Nat.le_refl _) _⟩
         ·have t1 : decide (a1 < a0) = false := decide_eq_false hle
          have HE : Hid (r = 0) := by show _ = _; rw [HE1.out, HM2.out, t1]; rfl
          clear hle
          go_wp2_with fail
          go_quiet (fail)
          (try rw [World.drewN_drewN])
          go_wp2_with (first | (refine wpList_load_row rfl 123 (.tmp 7) rfl wo.heap.size rfl 123 #[.string zn, .slice B bl bl, fv] (0, 0) _ (HR1.out _) Tryz.underlying123 rfl info3 ?_) | (refine wpList_store_row rfl 123 (.tmp 4) (.tmp 88) rfl w.heap.size #[.string zn, .slice B bl bl, fv] rfl rfl 123 zero3 (HRZ.out _) info3 rfl HCS.out ?_))
          try rw [Exit.noGoto_ret]
          refine bodyPost_ret (Ard.results_row_tmp rfl _ _ w.heap.size 123 #[.string zn, .slice B bl bl, fv] (0, 0) _ rfl (setRow_heap _ _ _ _ _ _ (HRZ.out _)) Tryz.underlying123 rfl info3) rfl ?_
          exact ⟨_, _, _, by rw [HE.out]; rfl, HCS.out, below_setRow (HBWW.out _) (Nat.le_refl _) _⟩
        | false =>
         have HE : Hid (r = 0) := by show _ = _; rw [HE1.out, HM.out]; rfl
         go_wp2_with fail
         go_quiet (fail)
         (try rw [World.drewN_drewN])
         go_wp2_with (first | (refine wpList_load_row rfl 123 (.tmp 7) rfl wo.heap.size rfl 123 #[.string zn, .slice B bl bl, fv] (0, 0) _ (HR1.out _) Tryz.underlying123 rfl info3 ?_) | (refine wpList_store_row rfl 123 (.tmp 4) (.tmp 88) rfl w.heap.size #[.string zn, .slice B bl bl, fv] rfl rfl 123 zero3 (HRZ.out _) info3 rfl HCS.out ?_))
         try rw [Exit.noGoto_ret]
         refine bodyPost_ret (Ard.results_row_tmp rfl _ _ w.heap.size 123 #[.string zn, .slice B bl bl, fv] (0, 0) _ rfl (setRow_heap _ _ _ _ _ _ (HRZ.out _)) Tryz.underlying123 rfl info3) rfl ?_
         exact ⟨_, _, _, by rw [HE.out]; rfl, HCS.out, below_setRow (HBWW.out _) (Nat.le_refl _) _⟩
   ·have HNE := Lib.hid he
    have hnn : (zn.toList == op.toList) = false := by rw [HOPL.out]; exact decide_eq_false he
    have hnn2 : (zn.toList != op.toList) = true := by unfold bne; rw [hnn]; rfl
    clear he
    go_wp2_with (refine Ard.wpList_store_rowW rfl 123 (.tmp 7) (.tmp 15) rfl wo.heap.size #[.string zn, .slice B bl bl, fv] rfl rfl 123 zero3 (heap_alloc_new wo _) info3 rfl HCS.out wo.heap.size wo ((Below.refl _ _).alloc (Nat.le_refl _) _) (Nat.le_refl _) ?_; intro W HW1 HW2 HW3; have y0 : W.cell? ⟨wo.heap.size, 0, none⟩ = some (.string zn) := Ard.row_cell HW1.out 0)
    go_roundg gko
    case rel => exact ⟨k + 1, by omega, by go_num, fun i q hi hq => by
      rcases Nat.lt_or_ge i k with h | h
      ·exact HNO.out i q h hq
      ·obtain rfl : i = k := by omega
       rw [HP.out] at hq
       injection hq with hq
       rw [← hq]
       exact HNE.out, HBR.out.trans (HW2.out.mono (by have := HBR.out.size; omega))⟩
    case measure => omega
theorem pcheck_any {op : ByteArray} {A : Option Addr} {n c : Nat} {a : List Int} (w : World) (HA : SI w .i64 A n a) : Calls Tryz.prog 75 #[.string op, .slice A n c] w (ChkP w (ptsM op.data.toList a)) := by
 have HF := Lib.hid (pfind_any (op := op) (c := c) w HA)
 clear HA
 go_enter Tryz.func75, Tryz.ntmps75
 go_wp2_with fail
 refine HF.out.mono ?_
 rintro e w1 ⟨x, y, z, rfl, hone, hb⟩
 have hw : ∀ o, Below w.heap.size w (w1.alloc o) := fun o => hb.alloc hb.size o
 have HW := Lib.hid hw
 have HSZ := Lib.hid hb.size
 have HO := Lib.hid hone
 clear hb hw hone
 go_wp2_with (refine Ard.wpList_store_rowW rfl 123 (.tmp 5) (.tmp 11) rfl w1.heap.size #[x, y, z] rfl rfl 123 zero3 (heap_alloc_new w1 _) info3 rfl HO.out w.heap.size w (HW.out _) HSZ.out ?_; intro W HW1 HW2 HW3)
 go_ret
 exact ⟨rfl, HW2.out⟩
end Go.Proofs.YtoofgblmpjndjaaGreatDoor.Scr
set_option linter.unusedVariables false
set_option linter.unusedSimpArgs false
namespace Go.Proofs.YtoofgblmpjndjaaGreatDoor.Scr
open Go.RowKit K Go.Lib

def zero4 : Array Value := #[.string ⟨#[]⟩, .slice none 0 0, .nilFunc, .nilFunc]
theorem zero4_one : zero4.all (·.oneCell') = true := by simp [zero4, Value.oneCell']
theorem info4 : (Tryz.prog.info? 130).map (·.size) = some 4 := by kernel_rfl
theorem mvs_at : ∀ (k : Nat), k < 14 → mvs[k]? = some (mvs.getD k ([], [])) := by decide
theorem mvs_bl : ∀ k, k < 14 → (mvs.getD k ([], [])).2.length ≤ 11 := by decide
def FindR (w : World) (v : Int) (e : Ending) (w' : World) : Prop := ∃ x y z u : Value, e = .returned (.tuple #[.agg #[x, y, z, u], .int .i64 v]) ∧ (#[x, y, z, u] : Array Value).all (·.oneCell') = true ∧ Below w.heap.size w w'
set_option maxRecDepth 20000 in
set_option maxHeartbeats 4000000 in
theorem mfind_any {op : ByteArray} {A : Option Addr} {n c : Nat} {a : List Int} (w : World) (HA : SI w .i64 A n a) : Calls Tryz.prog 105 #[.string op, .slice A n c] w (FindR w (chkM mvs op.data.toList a)) := by
 have HN := Lib.hid HA.len
 have HAA := Lib.hid HA
 obtain ⟨r, hr⟩ : ∃ r, chkM mvs op.data.toList a = r := ⟨_, rfl⟩
 rw [hr]
 have HR := Lib.hid hr
 clear HA hr
 go_enter Tryz.func105, Tryz.ntmps105
 go_wp2_with fail
 refine (mvops_any _).mono ?_
 rintro e wb ⟨g, rfl, hgl, hg, hbb, hops⟩
 have hs0 : w.heap.size < (w.alloc (.cells zero4 130)).heap.size := by simp
 have z0 : wb.heap[w.heap.size]? = some (.cells zero4 130 (0, 0)) := (hbb.block _ hs0).trans (heap_alloc_new w _)
 have Z0 := Lib.hid z0
 have HBW : Hid (Below w.heap.size w wb) := ((Below.refl w.heap.size w).alloc (Nat.le_refl _) _).trans (hbb.mono (Nat.le_of_lt hs0))
 have HG := Lib.hid hg
 have HOPS := Lib.hid hops
 have HZL : Hid (w.heap.size < wb.heap.size) := (Array.getElem?_eq_some_iff.1 z0).1
 clear z0 hbb hops hgl hg hs0
 have hpl : mvs.length = 14 := rfl
 rw [hpl]
 clear hpl
 go_wp2_with fail
 go_loopg [12] 14 (fun gh s12 wr => ∃ k : Nat, k + gh = 14 ∧ s12 = .int .i64 k ∧ (∀ (i : Nat) (q : Tx × List (Int × Int)), i < k → mvs[i]? = some q → q.1 ≠ op.data.toList) ∧ Below wb.heap.size wb wr)
 case atStart => exact ⟨0, by omega, rfl, fun i q hi => by omega, Below.refl _ _⟩
 case round =>
  obtain ⟨k, hkg, rfl, hno, hbr⟩ := hrel
  have HNO := Lib.hid hno
  have HBR := Lib.hid hbr
  have HZ : Hid (wr.heap[w.heap.size]? = some (.cells zero4 130 (0, 0))) := (hbr.block _ HZL.out).trans Z0.out
  have HB : Hid (Below w.heap.size w wr) := HBW.out.trans (hbr.mono (Nat.le_of_lt HZL.out))
  have HWL : Hid (w.heap.size < wr.heap.size) := Nat.lt_of_lt_of_le HZL.out hbr.size
  clear hno hbr
  cases gk with
  | zero =>
   obtain rfl : k = 14 := by omega
   simp only [Int.cast_ofNat_Int]
   have HE : Hid (r = 8) := by
    show _ = _
    rw [← HR.out]
    unfold chkM
    rw [findM_no (fun i q hq => HNO.out i q (by have := (List.getElem?_eq_some_iff.1 hq).1; exact this) hq)]
   go_wp2_with (refine wpList_store_row rfl 130 (.tmp 4) (.tmp 55) rfl w.heap.size zero4 rfl rfl 130 zero4 HZ.out info4 rfl zero4_one ?_)
   try rw [Exit.noGoto_ret]
   refine bodyPost_ret (Ard.results_row_tmp rfl _ _ w.heap.size 130 zero4 (0, 0) _ rfl (setRow_heap _ _ _ _ _ _ HZ.out) Tryz.underlying130 rfl info4) rfl ?_
   exact ⟨_, _, _, _, by rw [HE.out]; rfl, zero4_one, below_setRow HB.out (Nat.le_refl _) _⟩
  | succ gko =>
   obtain ⟨wo, rfl⟩ : ∃ wo, wo = wr := ⟨_, rfl⟩
   have hk14 : k < 14 := by omega
   obtain ⟨p, hp⟩ : ∃ p, mvs[k]? = some p := ⟨_, mvs_at k hk14⟩
   have hbl : p.2.length ≤ 11 := by
    have := mvs_bl k hk14
    rw [mvs_at k hk14] at hp
    injection hp with hp
    rw [hp] at this
    exact this
   obtain ⟨B, rr, hrow⟩ := HOPS.out k p hp
   have hrow2 := hrow.on HG.out HBR.out
   obtain ⟨f1, f2, rfl⟩ : ∃ f1 f2, rr = [f1, f2] := by
    have := hrow2.len
    match rr, this with
    | [f1, f2], _ => exact ⟨f1, f2, rfl⟩
   have z0 := hrow2.cs 0 _ rfl
   have z1 := hrow2.cs 1 _ rfl
   have z2 := hrow2.cs 2 _ rfl
   have z3 := hrow2.cs 3 _ rfl
   have HBS := Lib.hid hrow2.bs
   have hone := hrow2.one
   obtain ⟨bl, hbl2⟩ : ∃ b, p.2.length = b := ⟨_, rfl⟩
   obtain ⟨zn, hzn⟩ : ∃ z, ba p.1 = z := ⟨_, rfl⟩
   rw [Nat.add_zero, hzn] at z0
   rw [hbl2] at z1 hbl
   have HBL2 := Lib.hid hbl2
   have HBLE := Lib.hid hbl
   have HP := Lib.hid hp
   have hcs : (#[.string zn, .slice B bl bl, f1, f2] : Array Value).all (·.oneCell') = true := by
    simpa [Value.oneCell'] using hone
   have HCS := Lib.hid hcs
   have HOPL : Hid ((zn.toList == op.toList) = decide (p.1 = op.data.toList)) := by
    show _ = _
    rw [← hzn, tl_ba, ByteArray.toList_eq]
    by_cases h : p.1 = op.data.toList <;> simp [h]
   have d0 : decide ((k : Int) < 14) = true := decide_eq_true (by omega)
   have i0 : (0 : Int) ≤ (k : Int) := by omega
   have i1 : (k : Int) < 14 := by omega
   clear hrow hrow2 hone hcs hp hbl2 hzn hbl
   by_cases he : p.1 = op.data.toList
   ·have hnn : (zn.toList == op.toList) = true := by rw [HOPL.out]; exact decide_eq_true he
    have HF : Hid (findM mvs op.data.toList = some p.2) := findM_row HP.out HNO.out he
    have HE0 : Hid (r = if fitM p.2 a then 0 else 190) := by show _ = _; rw [← HR.out]; unfold chkM; rw [HF.out]
    clear he
    by_cases hl : n = bl
    ·have hl1 : ((n : Int) != (bl : Int)) = false := by simp; omega
     have HNB := Lib.hid hl
     clear hl
     go_wp2_with (refine Ard.wpList_store_rowW rfl 130 (.tmp 7) (.tmp 15) rfl wo.heap.size #[.string zn, .slice B bl bl, f1, f2] rfl rfl 130 zero4 (heap_alloc_new wo _) info4 rfl HCS.out wo.heap.size wo ((Below.refl _ _).alloc (Nat.le_refl _) _) (Nat.le_refl _) ?_; intro W HW1 HW2 HW3; have y0 : W.cell? ⟨wo.heap.size, 0, none⟩ = some (.string zn) := Ard.row_cell HW1.out 0; have y1 : W.cell? ⟨wo.heap.size, 1, none⟩ = some (.slice B bl bl) := Ard.row_cell HW1.out 1)
     clear hl1
     have HSW : Hid (W.heap.size = wo.heap.size + 1) := by show _ = _; rw [HW3.out]; simp
     go_loopg [30] bl (fun gh s30 wr => ∃ j : Nat, j + gh = bl ∧ s30 = .int .i64 j ∧ (∀ i, i < j → inB p.2 a i = true) ∧ Below W.heap.size W wr)
     case atStart => exact ⟨0, by omega, rfl, fun i hi => by omega, Below.refl _ _⟩
     case round =>
      obtain ⟨j, hjg, rfl, hin, hb2⟩ := hrel
      have HIN := Lib.hid hin
      have HB2 := Lib.hid hb2
      have HR1 : Hid (wr.heap[wo.heap.size]? = some (.cells #[.string zn, .slice B bl bl, f1, f2] 130 (0, 0))) := (hb2.block _ (by have := HSW.out; omega)).trans HW1.out
      have HRZ : Hid (wr.heap[w.heap.size]? = some (.cells zero4 130 (0, 0))) := (hb2.block _ (by have := HSW.out; have := HWL.out; omega)).trans ((HW2.out.block _ HWL.out).trans HZ.out)
      have HBW2 : Hid (Below w.heap.size w wr) := (HB.out.trans (HW2.out.mono HB.out.size)).trans (hb2.mono (by have := HSW.out; have := HB.out.size; omega))
      clear hin hb2
      cases gk with
      | zero =>
       obtain rfl : j = bl := by omega
       have HE : Hid (r = 0) := by
        show _ = _
        rw [HE0.out, (fit_all (by rw [HN.out, HBL2.out]; exact HNB.out)).2 (fun i hi => HIN.out i (by rw [HBL2.out] at hi; exact hi))]
        rfl
       have d1 : decide ((j : Int) < (j : Int)) = false := by simp
       go_wp2_with (first | (refine wpList_load_row rfl 130 (.tmp 7) rfl wo.heap.size rfl 130 #[.string zn, .slice B j j, f1, f2] (0, 0) _ HR1.out Tryz.underlying130 rfl info4 ?_) | (refine wpList_store_row rfl 130 (.tmp 4) (.tmp 53) rfl w.heap.size #[.string zn, .slice B j j, f1, f2] rfl rfl 130 zero4 HRZ.out info4 rfl HCS.out ?_))
       try rw [Exit.noGoto_ret]
       refine bodyPost_ret (Ard.results_row_tmp rfl _ _ w.heap.size 130 #[.string zn, .slice B j j, f1, f2] (0, 0) _ rfl (setRow_heap _ _ _ _ _ _ HRZ.out) Tryz.underlying130 rfl info4) rfl ?_
       exact ⟨_, _, _, _, by rw [HE.out]; rfl, HCS.out, below_setRow (HBW2.out) (Nat.le_refl _) _⟩
      | succ gk =>
       have hj : j < bl := by omega
       have HJG : Hid (j + 1 + gk = bl) := by show _ = _; omega
       have HWJ : Hid (wrap64 ((j : Int) + 1) = ((j + 1 : Nat) : Int)) := by show _ = _; have := HBLE.out; rw [IntWalk.wrap64_in _ (by omega)]; rfl
       have d1 : decide ((j : Int) < (bl : Int)) = true := decide_eq_true (by omega)
       obtain ⟨p1, p2⟩ := Ard.pairCells_at p.2 j (by rw [HBL2.out]; exact hj)
       obtain ⟨b, off, rfl, hc1⟩ := HBS.out _ _ p1
       obtain ⟨b', off', e', hc2⟩ := HBS.out _ _ p2
       injection e' with e'
       injection e' with e1 e2
       subst e1 e2
       have hbo : b < wo.heap.size := World.block_lt_of_cell? wo _ hc1
       have hup : ∀ q, wr.cell? ⟨b, q, none⟩ = wo.cell? ⟨b, q, none⟩ := fun q => (HB2.out.cell (p := ⟨b, q, none⟩) (by have := HSW.out; show b < _; omega)).trans (HW2.out.cell (p := ⟨b, q, none⟩) hbo)
       have x1 := (hup _).trans hc1
       have x2 := (hup _).trans hc2
       rw [← Nat.add_assoc] at x2
       obtain ⟨ab, ao, av, rfl, ac, hav, -⟩ := (HAA.out.below HBW2.out (Nat.le_refl _)).cells (i := j) (by have := HNB.out; omega)
       have hab : ab < wr.heap.size := World.block_lt_of_cell? wr _ ac
       have ac2 : ∀ o, (wr.alloc o).cell? ⟨ab, ao + j, none⟩ = some (.int .i64 av) := fun o => (((Below.refl wr.heap.size wr).alloc (Nat.le_refl _) o).cell (p := ⟨ab, ao + j, none⟩) hab).trans ac
       have j0 : (0 : Int) ≤ (j : Int) := by omega
       have j1 : (j : Int) < (bl : Int) := by omega
       have j2 : (j : Int) < (n : Int) := by have := HNB.out; omega
       have HINJ : Hid (inB p.2 a j = (decide ((p.2.getD j (0, 0)).1 ≤ av) && decide (av ≤ (p.2.getD j (0, 0)).2))) := by
        show _ = _
        unfold inB
        rw [Ard.getD_at hav.out]
       generalize (p.2.getD j (0, 0)).1 = lo at x1 HINJ
       generalize (p.2.getD j (0, 0)).2 = hi at x2 HINJ
       have HR12 : Hid (∀ o n, ((wr.alloc o).drewN n).heap[wo.heap.size]? = some (.cells #[.string zn, .slice (some ⟨b, off, none⟩) bl bl, f1, f2] 130 (0, 0))) := fun o n => (Below.heap_alloc _ _ _ (Array.getElem?_eq_some_iff.1 HR1.out).1).trans HR1.out
       have HRZ2 : Hid (∀ o n, ((wr.alloc o).drewN n).heap[w.heap.size]? = some (.cells zero4 130 (0, 0))) := fun o n => (Below.heap_alloc _ _ _ (Array.getElem?_eq_some_iff.1 HRZ.out).1).trans HRZ.out
       have HBW3 : Hid (∀ o n, Below w.heap.size w ((wr.alloc o).drewN n)) := fun o n => Go.Proofs.YtoofgblmpjndjaaGreatDoor.K.below_drewN (HBW2.out.alloc HBW2.out.size o) n
       have HBAD : Hid (inB p.2 a j = false → r = 190) := by
        show _ → _
        intro h
        have : fitM p.2 a = false := Bool.eq_false_iff.2 fun hf => by
         have := (fit_all (by rw [HN.out, HBL2.out]; exact HNB.out)).1 hf j (by rw [HBL2.out]; exact hj)
         rw [h] at this
         cases this
        rw [HE0.out, this]
        rfl
       have HINS : Hid (inB p.2 a j = true → ∀ i, i < j + 1 → inB p.2 a i = true) := by
        show _ → _
        intro h i hi
        rcases Nat.lt_or_ge i j with h2 | h2
        ·exact HIN.out i h2
        ·obtain rfl : i = j := by omega
         exact h
       clear hup hc1 hc2 hbo p1 p2 hav
       by_cases hin2 : lo ≤ av ∧ av ≤ hi
       ·have t1 : decide (av < lo) = false := decide_eq_false (by omega)
        have t2 : decide (hi < av) = false := decide_eq_false (by omega)
        have HI2 : Hid (inB p.2 a j = true) := by show _ = _; rw [HINJ.out, decide_eq_true hin2.1, decide_eq_true hin2.2]; rfl
        clear hin2
        go_wp2_with fail
        go_quiet (fail)
        go_wp2_with fail
        go_roundg gk
        case rel => exact ⟨j + 1, HJG.out, by rw [HWJ.out], HINS.out HI2.out, Go.Proofs.YtoofgblmpjndjaaGreatDoor.K.below_drewN (HB2.out.alloc HB2.out.size _) _⟩
        case measure => omega
       ·have HI2 : Hid (inB p.2 a j = false) := by
         show _ = _
         rw [HINJ.out, Bool.and_eq_false_iff, decide_eq_false_iff_not, decide_eq_false_iff_not]
         omega
        have HE : Hid (r = 190) := HBAD.out HI2.out
        rcases Decidable.em (av < lo) with h1 | h1
        ·have t1 : decide (av < lo) = true := decide_eq_true h1
         clear hin2 h1
         go_wp2_with fail
         go_quiet (fail)
         go_wp2_with (first | (refine wpList_load_row rfl 130 (.tmp 7) rfl wo.heap.size rfl 130 #[.string zn, .slice (some ⟨b, off, none⟩) bl bl, f1, f2] (0, 0) _ (HR12.out _ _) Tryz.underlying130 rfl info4 ?_) | (refine wpList_store_row rfl 130 (.tmp 4) (.tmp 51) rfl w.heap.size #[.string zn, .slice (some ⟨b, off, none⟩) bl bl, f1, f2] rfl rfl 130 zero4 (HRZ2.out _ _) info4 rfl HCS.out ?_))
         try rw [Exit.noGoto_ret]
         refine bodyPost_ret (Ard.results_row_tmp rfl _ _ w.heap.size 130 #[.string zn, .slice (some ⟨b, off, none⟩) bl bl, f1, f2] (0, 0) _ rfl (setRow_heap _ _ _ _ _ _ (HRZ2.out _ _)) Tryz.underlying130 rfl info4) rfl ?_
         exact ⟨_, _, _, _, by rw [HE.out]; rfl, HCS.out, below_setRow (HBW3.out _ _) (Nat.le_refl _) _⟩
        ·have t1 : decide (av < lo) = false := decide_eq_false h1
         have t2 : decide (hi < av) = true := decide_eq_true (by omega)
         clear hin2 h1
         go_wp2_with fail
         go_quiet (fail)
         go_wp2_with (first | (refine wpList_load_row rfl 130 (.tmp 7) rfl wo.heap.size rfl 130 #[.string zn, .slice (some ⟨b, off, none⟩) bl bl, f1, f2] (0, 0) _ (HR12.out _ _) Tryz.underlying130 rfl info4 ?_) | (refine wpList_store_row rfl 130 (.tmp 4) (.tmp 51) rfl w.heap.size #[.string zn, .slice (some ⟨b, off, none⟩) bl bl, f1, f2] rfl rfl 130 zero4 (HRZ2.out _ _) info4 rfl HCS.out ?_))
         try rw [Exit.noGoto_ret]
         refine bodyPost_ret (Ard.results_row_tmp rfl _ _ w.heap.size 130 #[.string zn, .slice (some ⟨b, off, none⟩) bl bl, f1, f2] (0, 0) _ rfl (setRow_heap _ _ _ _ _ _ (HRZ2.out _ _)) Tryz.underlying130 rfl info4) rfl ?_
         exact ⟨_, _, _, _, by rw [HE.out]; rfl, HCS.out, below_setRow (HBW3.out _ _) (Nat.le_refl _) _⟩
    ·have hl1 : ((n : Int) != (bl : Int)) = true := by simp; omega
     have HE : Hid (r = 190) := by show _ = _; rw [HE0.out, fit_len (by rw [HN.out, HBL2.out]; exact hl)]; rfl
     clear hl
     go_wp2_with (first | (refine Ard.wpList_store_rowW rfl 130 (.tmp 7) (.tmp 15) rfl wo.heap.size #[.string zn, .slice B bl bl, f1, f2] rfl rfl 130 zero4 (heap_alloc_new wo _) info4 rfl HCS.out wo.heap.size wo ((Below.refl _ _).alloc (Nat.le_refl _) _) (Nat.le_refl _) ?_; intro W HW1 HW2 HW3; have y0 : W.cell? ⟨wo.heap.size, 0, none⟩ = some (.string zn) := Ard.row_cell HW1.out 0; have y1 : W.cell? ⟨wo.heap.size, 1, none⟩ = some (.slice B bl bl) := Ard.row_cell HW1.out 1; have HRZ : Hid (W.heap[w.heap.size]? = some (.cells zero4 130 (0, 0))) := (HW2.out.block _ HWL.out).trans HZ.out) | (refine wpList_load_row rfl 130 (.tmp 7) rfl wo.heap.size rfl 130 #[.string zn, .slice B bl bl, f1, f2] (0, 0) _ HW1.out Tryz.underlying130 rfl info4 ?_) | (refine wpList_store_row rfl 130 (.tmp 4) (.tmp 26) rfl w.heap.size #[.string zn, .slice B bl bl, f1, f2] rfl rfl 130 zero4 HRZ.out info4 rfl HCS.out ?_))
     try rw [Exit.noGoto_ret]
     refine bodyPost_ret (Ard.results_row_tmp rfl _ _ w.heap.size 130 #[.string zn, .slice B bl bl, f1, f2] (0, 0) _ rfl (setRow_heap _ _ _ _ _ _ HRZ.out) Tryz.underlying130 rfl info4) rfl ?_
     exact ⟨_, _, _, _, by rw [HE.out]; rfl, HCS.out, below_setRow (HB.out.trans (HW2.out.mono HB.out.size)) (Nat.le_refl _) _⟩
   ·have HNE := Lib.hid he
    have hnn : (zn.toList == op.toList) = false := by rw [HOPL.out]; exact decide_eq_false he
    clear he
    go_wp2_with (refine Ard.wpList_store_rowW rfl 130 (.tmp 7) (.tmp 15) rfl wo.heap.size #[.string zn, .slice B bl bl, f1, f2] rfl rfl 130 zero4 (heap_alloc_new wo _) info4 rfl HCS.out wo.heap.size wo ((Below.refl _ _).alloc (Nat.le_refl _) _) (Nat.le_refl _) ?_; intro W HW1 HW2 HW3; have y0 : W.cell? ⟨wo.heap.size, 0, none⟩ = some (.string zn) := Ard.row_cell HW1.out 0; have y1 : W.cell? ⟨wo.heap.size, 1, none⟩ = some (.slice B bl bl) := Ard.row_cell HW1.out 1)
    go_roundg gko
    case rel => exact ⟨k + 1, by omega, by go_num, fun i q hi hq => by
      rcases Nat.lt_or_ge i k with h | h
      ·exact HNO.out i q h hq
      ·obtain rfl : i = k := by omega
       rw [HP.out] at hq
       injection hq with hq
       rw [← hq]
       exact HNE.out, HBR.out.trans (HW2.out.mono (by have := HBR.out.size; omega))⟩
    case measure => omega
theorem mcheck_any {op : ByteArray} {A : Option Addr} {n c : Nat} {a : List Int} (w : World) (HA : SI w .i64 A n a) : Calls Tryz.prog 76 #[.string op, .slice A n c] w (ChkP w (chkM mvs op.data.toList a)) := by
 have HF := Lib.hid (mfind_any (op := op) (c := c) w HA)
 clear HA
 go_enter Tryz.func76, Tryz.ntmps76
 go_wp2_with fail
 refine HF.out.mono ?_
 rintro e w1 ⟨x, y, z, u, rfl, hone, hb⟩
 have hw : ∀ o, Below w.heap.size w (w1.alloc o) := fun o => hb.alloc hb.size o
 have HW := Lib.hid hw
 have HSZ := Lib.hid hb.size
 have HO := Lib.hid hone
 clear hb hw hone
 go_wp2_with (refine Ard.wpList_store_rowW rfl 130 (.tmp 5) (.tmp 11) rfl w1.heap.size #[x, y, z, u] rfl rfl 130 zero4 (heap_alloc_new w1 _) info4 rfl HO.out w.heap.size w (HW.out _) HSZ.out ?_; intro W HW1 HW2 HW3)
 go_ret
 exact ⟨rfl, HW2.out⟩
end Go.Proofs.YtoofgblmpjndjaaGreatDoor.Scr
