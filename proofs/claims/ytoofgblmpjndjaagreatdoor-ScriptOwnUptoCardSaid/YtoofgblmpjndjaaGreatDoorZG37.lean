/-
  Walks: the program's Reads, once more: what it answers is its own.
-/
import Derived.Test.YtoofgblmpjndjaaGreatDoorZG10
set_option linter.unusedVariables false
set_option linter.unusedSimpArgs false
namespace Go.Proofs.YtoofgblmpjndjaaGreatDoor.Scr
open Go.RowKit K Go.Lib

def TxtsO (w : World) (l : List Tx) (e : Ending) (w' : World) : Prop := ∃ A c, e = .returned (.slice A l.length c) ∧ w'.ownsRow w.heap.size 9 1 (.slice A l.length c) l.length (l.map vS) ∧ Below w.heap.size w w'
set_option maxRecDepth 20000 in
set_option maxHeartbeats 4000000 in
theorem reads_own {A : Option Addr} {n c : Nat} {l : List (Int × St)} (w : World) (H : TS w A n l) : Calls Tryz.prog 17 #[.slice A n c] w (TxtsO w (readsM l)) := by
 have HT := Lib.hid H
 have HLN := Lib.hid H.len
 have HSZ : Hid (n ≤ 1099511627776) := H.sz
 clear H
 go_enter Tryz.func17, Tryz.ntmps17
 go_wp2
 go_loopw [3, 8] (fun s3 s4 wr => ∃ (k : Nat) (A1 : Option Addr) (q c1 : Nat), k ≤ n ∧ s3 = .slice A1 q c1 ∧ s4 = .int .i64 (k : Int) ∧ q ≤ k ∧ Hid ((readsM (l.take k)).length = q) ∧ wr.ownsRow w.heap.size 9 1 (.slice A1 q c1) q ((readsM (l.take k)).map vS) ∧ Below w.heap.size w wr) (fun _ s4 _ => n - (intOf s4).toNat)
 case atStart => exact ⟨0, none, 0, 0, by omega, rfl, rfl, by omega, rfl, World.ownsRow_nil _ _ _ _, Below.refl _ _⟩
 case round =>
  obtain ⟨k, A1, q, c1, hk, rfl, rfl, hq, HQL, ho, hb⟩ := hrel
  have HO := Lib.hid ho
  have HB := Lib.hid hb
  have HQ := Lib.hid hq
  clear ho hb hq
  by_cases hlt : k < n
  ·have HLT := Lib.hid hlt
   have HTW := Lib.hid (HT.out.below HB.out)
   obtain ⟨p, hp⟩ : ∃ p, l[k]? = some p := ⟨l[k]'(by rw [HLN.out]; exact hlt), List.getElem?_eq_getElem _⟩
   obtain ⟨b, o, rfl, hst, hbl⟩ := HTW.out.at' k p hp
   obtain ⟨As, ns, cs, Aa, na, ca, h0, h1, h2, h3, h4, h5, hss, hsi⟩ := hst
   have d0 : decide ((k : Int) < (n : Int)) = true := decide_eq_true (by omega)
   have e0 : decide (k < n) = true := decide_eq_true hlt
   have l0 : (k : Int) < n := by omega
   have z0 : (0 : Int) ≤ k := by omega
   have HU : Hid (wrap64 ((k : Int) + 1) = ((k + 1 : Nat) : Int)) := by show _ = _; have := HSZ.out; rw [IntWalk.wrap64_in _ (by omega)]; rfl
   have HTK : Hid (readsM (l.take (k + 1)) = rstep (readsM (l.take k)) p) := by show _ = _; rw [List.take_add_one, hp, Option.toList_some, readsM_snoc]
   obtain ⟨eR, hE⟩ : ∃ e, ((ba p.2.op).toList == [114, 101, 97, 100]) = e := ⟨_, rfl⟩
   have HER : Hid (eR = decide (p.2.op = readT)) := by show _ = _; rw [← hE]; exact lit_beq2
   have HBN := Lib.hid (BoxS.new wr (.int .i64 p.1) p.2.op p.2.dst p.2.file As ns cs Aa na ca)
   clear hss hsi hp hk hlt
   go_upto_region 4 with (fail)
   go_cut [5, 8] from 8 to 27 (fun s5 s8 wx => s5 = .pointer (some ⟨wr.heap.size, 0, none⟩) ∧ s8 = .int .i64 (k : Int) ∧ BoxS wx wr.heap.size p.2.op p.2.dst p.2.file As ns cs Aa na ca ∧ Below wr.heap.size wr wx)
   case first =>
    go_wp2_with fail
    go_meet
    exact ⟨rfl, rfl, HBN.out, (Below.refl _ wr).alloc (Nat.le_refl _) _⟩
   case rest =>
   obtain ⟨rfl, rfl, hbx, hbw⟩ := hcut
   have x1 := hbx.x1
   have x4 := hbx.x4
   have HSW := Lib.hid ((SS.of_own HO.out (by have := HQ.out; have := HSZ.out; omega)).below hbw)
   have HO1 : Hid (wc.ownsRow w.heap.size 9 1 (.slice A1 q c1) q ((readsM (l.take k)).map vS)) := own_below HO.out hbw
   have HB1 : Hid (Below w.heap.size w wc) := HB.out.trans (hbw.mono HB.out.size)
   have HIN := Lib.hid (containsT (c := c1) p.2.file HSW.out)
   obtain ⟨R, hR⟩ : ∃ R, readsM (l.take k) = R := ⟨_, rfl⟩
   rw [hR] at HQL HO1 HTK HIN HSW HO
   clear h0 h1 h2 h3 h4 h5 hR HBN
   generalize wr.heap.size = gb at *
   cases eR with
   | false =>
    have HST : Hid (readsM (l.take (k + 1)) = R) := by
     show _ = _
     rw [HTK.out]
     unfold rstep
     rw [if_neg (fun h => by have := HER.out; rw [decide_eq_true h.1] at this; cases this)]
    go_wp2_with fail
    go_roundw
    case rel => exact ⟨k + 1, _, q, c1, HLT.out, rfl, by first | rfl | rw [HU.out], by have := HQ.out; omega, by show _ = _; rw [HST.out]; exact HQL.out, by rw [HST.out]; exact HO1.out, HB1.out⟩
    case measure => first | exact meas_by (d := 1) HLT.out (by omega) | (rw [HU.out]; exact meas_by (d := 1) HLT.out (by omega))
   | true =>
    have hop : p.2.op = readT := of_decide_eq_true HER.out.symm
    obtain ⟨eC, hC⟩ : ∃ e, R.contains p.2.file = e := ⟨_, rfl⟩
    rw [hC] at HIN
    cases eC with
    | true =>
     have HST : Hid (readsM (l.take (k + 1)) = R) := by
      show _ = _
      rw [HTK.out]
      unfold rstep
      rw [if_neg (fun h => by rw [h.2] at hC; cases hC)]
     clear hop hC
     go_wp2_with (first | (go_at_call 37; refine HIN.out.mono ?_; rintro e w' ⟨rfl, rfl⟩) | fail)
     go_roundw
     case rel => exact ⟨k + 1, _, q, c1, HLT.out, rfl, by first | rfl | rw [HU.out], by have := HQ.out; omega, by show _ = _; rw [HST.out]; exact HQL.out, by rw [HST.out]; exact HO1.out, HB1.out⟩
     case measure => first | exact meas_by (d := 1) HLT.out (by omega) | (rw [HU.out]; exact meas_by (d := 1) HLT.out (by omega))
    | false =>
     have HST : Hid (readsM (l.take (k + 1)) = R ++ [p.2.file]) := by
      show _ = _
      rw [HTK.out]
      unfold rstep
      rw [if_pos ⟨hop, hC⟩]
     clear hop hC
     obtain ⟨fw, hfw⟩ : ∃ f, p.2.file = f := ⟨_, rfl⟩
     rw [hfw] at HST x4 HIN hbx
     clear hfw
     go_wp2_with (first | (go_at_call 37; refine HIN.out.mono ?_; rintro e w' ⟨rfl, rfl⟩) | (at_builtin; refine wpList_pushS rfl (.tmp 22) (.tmp 25) _ rfl w.heap.size Tryz.underlying34 A1 q c1 R rfl HO1.out 9 fw rfl (by have := HQ.out; have := HLT.out; have := HSZ.out; omega) HB1.out.size ?_) | fail)
     intro g cap w5 ho5 hb5 hlt5
     have HO5 := Lib.hid ho5
     have HB5 : Hid (Below w.heap.size w w5) := HB1.out.trans hb5
     clear ho5 hb5 hlt5
     go_wp2_with fail
     go_roundw
     case rel => exact ⟨k + 1, _, q + 1, cap, HLT.out, rfl, by first | rfl | rw [HU.out], by have := HQ.out; omega, by show _ = _; rw [HST.out, List.length_append, HQL.out]; rfl, by rw [HST.out, List.map_append]; exact HO5.out, HB5.out⟩
     case measure => first | exact meas_by (d := 1) HLT.out (by omega) | (rw [HU.out]; exact meas_by (d := 1) HLT.out (by omega))
  ·obtain rfl : k = n := by omega
   have d0 : decide ((k : Int) < (k : Int)) = false := decide_eq_false (by omega)
   have hl : l.take k = l := List.take_of_length_le (by rw [HLN.out]; exact Nat.le_refl _)
   rw [hl] at HQL HO
   clear hl hk hlt
   go_wp2_with fail
   go_ret
   have hsz := HQ.out
   have hss := SS.of_own HO.out (by have := HSZ.out; omega)
   refine ⟨A1, c1, ?_, ?_, HB.out⟩
   ·rw [HQL.out]; rfl
   ·rw [HQL.out]; exact HO.out
end Go.Proofs.YtoofgblmpjndjaaGreatDoor.Scr
