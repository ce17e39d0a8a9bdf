/-
  Texts of this claim, joined by program (ArdT, ArdU, ScE). Walks: the reference's bounds, Check, Reach.
-/
import Derived.Test.YtoofgblmpjndjaaGreatDoorZG5
import Derived.Test.YtoofgblmpjndjaaGreatDoorZG4
set_option linter.unusedVariables false
set_option linter.unusedSimpArgs false
namespace Go.Proofs.YtoofgblmpjndjaaGreatDoor.Ard
open Go.RowKit K

theorem name_inj : ∀ i, i < 9 → ∀ j, j < 9 → nameF i = nameF j → i = j := by decide +kernel
def litF : Nat → List UInt8
 | 0 => [99, 111, 110, 118, 111, 108, 118, 101]
 | 1 => [98, 108, 117, 114]
 | 2 => [115, 104, 97, 114, 112, 101, 110]
 | 3 => [101, 100, 103, 101]
 | 4 => [101, 109, 98, 111, 115, 115]
 | 5 => [108, 101, 97, 115, 116]
 | 6 => [109, 111, 115, 116]
 | 7 => [109, 101, 100, 105, 97, 110]
 | _ => [108, 105, 110, 101, 115]
theorem litF_eq (j : Nat) : (nameF j).toList = litF j := by
 rw [ByteArray.toList_eq]
 match j with
 | 0 => rfl
 | 1 => rfl
 | 2 => rfl
 | 3 => rfl
 | 4 => rfl
 | 5 => rfl
 | 6 => rfl
 | 7 => rfl
 | n + 8 => rfl
theorem name_beq {op : ByteArray} {k j : Nat} (hk : k < 9) (hj : j < 9) (h : op = nameF k) : (op.toList == litF j) = (k == j) := by
 rw [← litF_eq, bytes_beq, h]
 by_cases e : k = j
 ·simp [e]
 ·have : nameF k ≠ nameF j := fun e2 => e (name_inj k hk j hj e2)
  simp [e, this]
def SeeI (w : World) (l : List Int) (e : Ending) (w' : World) : Prop :=
 ∃ A c, e = .returned (.slice A l.length c) ∧ SI w' .i64 A l.length l ∧ Below w.heap.size w w'
theorem SI.lit (w : World) (l : List Int) (T : TypeId) (hl : l.length * 8 ≤ 140737488351232) : SI (w.alloc (.cells (l.map (Value.int .i64)).toArray T)) .i64 (some ⟨w.heap.size, 0, none⟩) l.length l := ⟨rfl, hl, sl_new w _ T⟩
set_option maxHeartbeats 2000000 in
theorem bounds_any {op : ByteArray} {k : Nat} (w : World) (hk : k < 9) (h : op = nameF k) : Calls Tryz.prog 110 #[.string op] w (SeeI w (flatP (bndF k))) := by
 have n0 := name_beq (j := 0) hk (by omega) h
 have n1 := name_beq (j := 1) hk (by omega) h
 have n2 := name_beq (j := 2) hk (by omega) h
 have n5 := name_beq (j := 5) hk (by omega) h
 have n6 := name_beq (j := 6) hk (by omega) h
 have n7 := name_beq (j := 7) hk (by omega) h
 have n8 := name_beq (j := 8) hk (by omega) h
 simp only [litF] at n0 n1 n2 n5 n6 n7 n8
 clear h
 rcases nine hk with rfl | rfl | rfl | rfl | rfl | rfl | rfl | rfl | rfl <;> simp only [Nat.reduceBEq] at n0 n1 n2 n5 n6 n7 n8
 ·go_enter Tryz.func110, Tryz.ntmps110
  go_wp2
  clear n0 n1 n2 n5 n6 n7 n8 hk
  go_loopw [3, 4] (fun s3 s4 wr => ∃ (k : Nat) (A2 : Option Addr) (c2 : Nat), k ≤ 9 ∧ s4 = .int .i64 k ∧ s3 = .slice A2 (2 * k) c2 ∧ wr.ownsRow w.heap.size 3 1 (.slice A2 (2 * k) c2) (2 * k) ((flatP (List.replicate k (-1024, 1024))).map (.int .i64)) ∧ Below w.heap.size w wr) (fun _ s4 _ => 9 - (intOf s4).toNat)
  case atStart => exact ⟨0, none, 0, by omega, rfl, rfl, World.ownsRow_nil _ _ _ _, Below.refl _ _⟩
  case round =>
   obtain ⟨k, A2, c2, hk, rfl, rfl, hown, hb⟩ := hrel
   have HO := Lib.hid hown
   have HB := Lib.hid hb
   clear hown hb
   by_cases hlt : k < 9
   ·have d0 : decide ((k : Int) < 9) = true := decide_eq_true (by omega)
    have HFP : Hid (flatP (List.replicate (k + 1) (-1024, 1024)) = flatP (List.replicate k (-1024, 1024)) ++ [-1024, 1024]) := by show _ = _; rw [List.replicate_succ']; simp [flatP]
    go_wp2_with (at_builtin; refine wpList_append_sl _ rfl (.tmp 12) (.tmp 13) _ rfl w.heap.size 3 1 8 _ Tryz.underlying35 infoInt rfl (by omega) (.slice A2 (2 * k) c2) (2 * k) _ rfl (HO.out.alloc _) _ 2 2 [.int .i64 (-1024), .int .i64 1024] rfl rfl (sl_new wr [.int .i64 (-1024), .int .i64 1024] _) ?c1 ?c2 ?c3 ?c4 ?_)
    case c1 => intro u hu; simp at hu; rcases hu with rfl | rfl <;> rfl
    case c2 => unfold maxLen; omega
    case c3 => omega
    case c4 => have := HB.out.size; simp; omega
    intro v' w5 hown5 hg5 hat5
    obtain ⟨A5, c5, rfl⟩ := own_form hown5
    have HO5 : Hid (w5.ownsRow w.heap.size 3 1 (.slice A5 (2 * (k + 1)) c5) (2 * (k + 1)) ((flatP (List.replicate (k + 1) (-1024, 1024))).map (.int .i64))) := by rw [HFP.out, List.map_append]; exact hown5
    have HB5 : Hid (Below w.heap.size w w5) := (HB.out.alloc HB.out.size _).grown hg5 (by have := HB.out.size; simp; omega) (fun b e => (HO.out.lt b e).1)
    have he : 2 * k + 2 = 2 * (k + 1) := by omega
    rw [he]
    clear hown5 hg5 hat5 HO HB HFP he
    go_wp2_with fail
    go_roundw
    case rel => exact ⟨k + 1, A5, c5, by omega, by go_num, rfl, HO5.out, HB5.out⟩
    case measure => simp [intOf]; omega
   ·obtain rfl : k = 9 := by omega
    simp only [Int.cast_ofNat_Int]
    go_wp2_with (at_builtin; refine wpList_append_sl _ rfl (.tmp 15) (.tmp 16) _ rfl w.heap.size 3 1 8 _ Tryz.underlying35 infoInt rfl (by omega) (.slice A2 (2 * 9) c2) (2 * 9) _ rfl (HO.out.alloc _) _ 4 4 [.int .i64 1, .int .i64 65535, .int .i64 (-65535), .int .i64 65535] rfl rfl (sl_new wr [.int .i64 1, .int .i64 65535, .int .i64 (-65535), .int .i64 65535] _) ?c1 ?c2 ?c3 ?c4 ?_)
    case c1 => intro u hu; simp at hu; rcases hu with rfl | rfl | rfl | rfl <;> rfl
    case c2 => unfold maxLen; omega
    case c3 => omega
    case c4 => have := HB.out.size; simp; omega
    intro v' w5 hown5 hg5 hat5
    obtain ⟨A5, c5, rfl⟩ := own_form hown5
    have HB5 : Hid (Below w.heap.size w w5) := (HB.out.alloc HB.out.size _).grown hg5 (by have := HB.out.size; simp; omega) (fun b e => (HO.out.lt b e).1)
    have HO5 := Lib.hid hown5
    clear hown5 hg5 hat5 HO HB
    go_wp2_with fail
    go_ret
    exact ⟨A5, c5, rfl, SI.of_own (l := flatP (bndF 0)) HO5.out (by decide), HB5.out⟩
 all_goals (
  go_enter Tryz.func110, Tryz.ntmps110
  go_wp2
  go_ret
  first
   | exact ⟨_, _, rfl, SI.lit w [1, 8] _ (by decide), (Below.refl _ w).alloc (Nat.le_refl _) _⟩
   | exact ⟨_, _, rfl, SI.lit w [1, 3] _ (by decide), (Below.refl _ w).alloc (Nat.le_refl _) _⟩
   | exact ⟨none, 0, rfl, SI.nil w .i64 none, Below.refl _ w⟩)
end Go.Proofs.YtoofgblmpjndjaaGreatDoor.Ard
set_option linter.unusedVariables false
set_option linter.unusedSimpArgs false
namespace Go.Proofs.YtoofgblmpjndjaaGreatDoor.Ard
open Go.RowKit K

theorem idxF_some {op : ByteArray} {k : Nat} (h : idxF op = some k) : k < 9 ∧ op = nameF k := by
 unfold idxF at h
 have h1 := List.find?_some h
 have h2 := List.mem_of_find?_eq_some h
 simp at h1 h2
 exact ⟨h2, h1.symm⟩
theorem rcheck_any {op : ByteArray} {A : Option Addr} {n c : Nat} {a : List Int} (w : World) (HA : SI w .i64 A n a) : Calls Tryz.prog 88 #[.string op, .slice A n c] w (CheckP w (checkE op a)) := by
 have HAA := Lib.hid HA
 clear HA
 go_enter Tryz.func88, Tryz.ntmps88
 go_wp2_with fail
 refine (rnames_any w).mono ?_
 rintro e w1 ⟨g, rfl, hs, hb⟩
 have HB := Lib.hid hb
 have HS := Lib.hid hs
 clear hs hb
 go_wp2_with fail
 refine (in_any w1 HS.out).mono ?_
 rintro e w2 ⟨rfl, rfl⟩
 cases hid : idxF op with
 | none =>
  have HE : Hid (checkE op a = 8) := by show _ = _; unfold checkE; rw [hid]
  clear hid
  simp only [Option.isSome_none]
  go_wp2_with fail
  go_ret
  exact ⟨by rw [HE.out]; rfl, HB.out⟩
 | some k =>
  obtain ⟨hk, hop⟩ := idxF_some hid
  have HE : Hid (checkE op a = if fitsB (bndF k) a then 0 else 190) := by show _ = _; unfold checkE; rw [hid]
  have HBD := Lib.hid (bounds_any w1 hk hop)
  clear hid hop
  simp only [Option.isSome_some]
  go_wp2_with fail
  refine HBD.out.mono ?_
  rintro e w3 ⟨B, bc, rfl, hsi, hb3⟩
  have hl2 : (flatP (bndF k)).length = 2 * (bndF k).length := by
   unfold flatP
   generalize bndF k = l
   induction l with
   | nil => rfl
   | cons p l ih => rw [List.flatMap_cons, List.length_append, ih]; simp; omega
  have HB3 : Hid (Below w.heap.size w w3) := HB.out.trans (hb3.mono HB.out.size)
  have HF := Lib.hid (fit_any (c := c) (d := bc) w3 (HAA.out.below HB3.out (Nat.le_refl _)) rfl hl2 hsi (bndF_len k))
  clear hsi hb3 hl2
  go_wp2_with fail
  refine HF.out.mono ?_
  rintro e w4 ⟨rfl, q, rfl⟩
  cases hfit : fitsB (bndF k) a
  ·have HE2 : Hid (checkE op a = 190) := by show _ = _; rw [HE.out, hfit]; rfl
   clear hfit
   go_wp2_with fail
   go_ret
   exact ⟨by rw [HE2.out]; rfl, Go.Proofs.YtoofgblmpjndjaaGreatDoor.K.below_drewN HB3.out _⟩
  ·have HE2 : Hid (checkE op a = 0) := by show _ = _; rw [HE.out, hfit]; rfl
   clear hfit
   go_wp2_with fail
   go_ret
   exact ⟨by rw [HE2.out]; rfl, Go.Proofs.YtoofgblmpjndjaaGreatDoor.K.below_drewN HB3.out _⟩
theorem check_ok {op : ByteArray} {a : List Int} (h : checkE op a = 0) : ∃ k, k < 9 ∧ idxF op = some k ∧ op = nameF k ∧ fitsB (bndF k) a = true := by
 unfold checkE at h
 cases hid : idxF op with
 | none => rw [hid] at h; simp at h
 | some k =>
  rw [hid] at h
  obtain ⟨hk, hop⟩ := idxF_some hid
  refine ⟨k, hk, rfl, hop, ?_⟩
  cases hf : fitsB (bndF k) a with
  | true => rfl
  | false => simp [hf] at h
theorem strInfo : (Tryz.prog.info? 9).map (fun i => (i.zero, i.size, i.bytes)) = some (some (.string ⟨#[]⟩), 1, 16) := by kernel_rfl
end Go.Proofs.YtoofgblmpjndjaaGreatDoor.Ard
set_option linter.unusedVariables false
set_option linter.unusedSimpArgs false
namespace Go.Proofs.YtoofgblmpjndjaaGreatDoor.Scr
open Go.RowKit K Go.Lib

theorem tl_ba (t : Tx) : (ba t).toList = t := by rw [ByteArray.toList_eq]; rfl
theorem lit_beq {op : ByteArray} {t u : Tx} (h : op = ba t) : (op.toList == u) = (t == u) := by rw [h, tl_ba]
theorem tx_beq (a b : ByteArray) : (a.toList == b.toList) = (a.data.toList == b.data.toList) := by rw [ByteArray.toList_eq, ByteArray.toList_eq]
theorem SS.lit (w : World) (l : List Tx) (T : TypeId) (h : l.length ≤ 8796093022000) : SS (w.alloc (.cells (l.map vS).toArray T)) (some ⟨w.heap.size, 0, none⟩) l.length l := ⟨rfl, Ard.sl_new w _ T, h⟩
def TxtsP (w : World) (l : List Tx) (e : Ending) (w' : World) : Prop := ∃ A c, e = .returned (.slice A l.length c) ∧ SS w' A l.length l ∧ Below w.heap.size w w'
set_option maxHeartbeats 2000000 in
theorem in_any {A : Option Addr} {n c : Nat} {l : List Tx} (t : ByteArray) (w : World) (H : SS w A n l) : Calls Tryz.prog 28 #[.string t, .slice A n c] w fun e w' => e = .returned (.bool (l.contains t.data.toList)) ∧ w = w' := by
 have HS := Lib.hid H
 have HLN := Lib.hid H.len
 have HSZ : Hid (n ≤ 8796093022000) := H.sz
 clear H
 go_enter Tryz.func28, Tryz.ntmps28
 go_wp2
 go_loopw [5] (fun s5 wr => ∃ k : Nat, k ≤ n ∧ s5 = .int .i64 (k : Int) ∧ w = wr ∧ Hid ((l.take k).contains t.data.toList = false)) (fun s5 _ => n - (intOf s5).toNat)
 case atStart => exact ⟨0, by omega, rfl, rfl, rfl⟩
 case round =>
  obtain ⟨k, hk, rfl, rfl, HA⟩ := hrel
  by_cases hlt : k < n
  ·have HLT := Lib.hid hlt
   obtain ⟨b, off, x, rfl, hc, hx, -⟩ := HS.out.cell hlt
   have d0 : decide ((k : Int) < (n : Int)) = true := decide_eq_true (by omega)
   have e0 : decide (k < n) = true := decide_eq_true hlt
   have l0 : (k : Int) < n := by omega
   have z0 : (0 : Int) ≤ k := by omega
   have HX := Lib.hid hx
   obtain ⟨xb, hxb⟩ : ∃ z, ba x = z := ⟨_, rfl⟩
   have hbe : (xb.toList == t.toList) = (x == t.data.toList) := by rw [← hxb, tx_beq]; rfl
   rw [hxb] at hc
   have HU : Hid (wrap64 ((k : Int) + 1) = ((k + 1 : Nat) : Int)) := by show _ = _; have := HSZ.out; rw [IntWalk.wrap64_in _ (by omega)]; rfl
   by_cases he : x = t.data.toList
   ·have hb2 : (xb.toList == t.toList) = true := by rw [hbe, he]; exact beq_self_eq_true _
    have HE : Hid (l.contains t.data.toList = true) := by show _ = _; rw [← he]; exact List.contains_iff_mem.2 (List.mem_of_getElem? HX.out)
    clear hbe he hx hk hlt hxb
    go_wp2
    go_ret
    exact ⟨by rw [HE.out]; rfl, rfl⟩
   ·have hb2 : (xb.toList == t.toList) = false := by rw [hbe]; exact beq_eq_false_iff_ne.2 he
    have HE : Hid ((l.take (k + 1)).contains t.data.toList = false) := by
     show _ = _
     rw [List.take_add_one, HX.out, Option.toList_some, List.contains_append, HA.out]
     simp
     exact fun e => he e.symm
    clear hbe he hx hk hlt hxb
    go_wp2
    go_roundw
    case rel => exact ⟨k + 1, HLT.out, by first | rfl | rw [HU.out], by trivial, HE⟩
    case measure => first | exact meas_by (d := 1) HLT.out (by omega) | (rw [HU.out]; exact meas_by (d := 1) HLT.out (by omega))
  ·obtain rfl : k = n := by omega
   have d0 : decide ((k : Int) < (k : Int)) = false := decide_eq_false (by omega)
   have h := HA.out
   rw [List.take_of_length_le (by rw [HLN.out]; exact Nat.le_refl _)] at h
   have HE := Lib.hid h
   clear h hlt hk
   go_wp2
   go_ret
   exact ⟨by rw [HE.out]; rfl, rfl⟩
theorem rnames20 (w : World) : Calls Tryz.prog 83 #[] w (TxtsP w (pts.map (·.1))) := by
 have H := Lib.hid (SS.lit w (pts.map (·.1)) 9 (by decide))
 go_enter Tryz.func83, Tryz.ntmps83
 go_wp2
 go_ret
 exact ⟨_, _, rfl, H.out, (Below.refl _ w).alloc (Nat.le_refl _) _⟩
theorem rnames21 (w : World) : Calls Tryz.prog 85 #[] w (TxtsP w (mvs.map (·.1))) := by
 have H := Lib.hid (SS.lit w (mvs.map (·.1)) 9 (by decide))
 go_enter Tryz.func85, Tryz.ntmps85
 go_wp2
 go_ret
 exact ⟨_, _, rfl, H.out, (Below.refl _ w).alloc (Nat.le_refl _) _⟩
theorem rnames23 (w : World) : Calls Tryz.prog 111 #[] w (TxtsP w (bld.map (·.1))) := by
 have H := Lib.hid (SS.lit w (bld.map (·.1)) 9 (by decide))
 go_enter Tryz.func111, Tryz.ntmps111
 go_wp2
 go_ret
 exact ⟨_, _, rfl, H.out, (Below.refl _ w).alloc (Nat.le_refl _) _⟩
theorem rformats (w : World) : Calls Tryz.prog 58 #[] w (TxtsP w (fmtsM)) := by
 have H := Lib.hid (SS.lit w (fmtsM) 9 (by decide))
 go_enter Tryz.func58, Tryz.ntmps58
 go_wp2
 go_ret
 exact ⟨_, _, rfl, H.out, (Below.refl _ w).alloc (Nat.le_refl _) _⟩
theorem rb20_0 {op : ByteArray} (w : World) (h : op = ba [105, 110, 118, 101, 114, 116]) : Calls Tryz.prog 108 #[.string op] w (Ard.SeeI w []) := by
 have n0 : (op.toList == [116, 104, 114, 101, 115, 104, 111, 108, 100]) = false := (lit_beq (u := [116, 104, 114, 101, 115, 104, 111, 108, 100]) h).trans (by decide)
 have n1 : (op.toList == [115, 111, 108, 97, 114, 105, 122, 101]) = false := (lit_beq (u := [115, 111, 108, 97, 114, 105, 122, 101]) h).trans (by decide)
 have n2 : (op.toList == [108, 101, 118, 101, 108, 115]) = false := (lit_beq (u := [108, 101, 118, 101, 108, 115]) h).trans (by decide)
 have n3 : (op.toList == [115, 113, 117, 101, 101, 122, 101]) = false := (lit_beq (u := [115, 113, 117, 101, 101, 122, 101]) h).trans (by decide)
 have n4 : (op.toList == [97, 100, 100]) = false := (lit_beq (u := [97, 100, 100]) h).trans (by decide)
 have n5 : (op.toList == [115, 99, 97, 108, 101]) = false := (lit_beq (u := [115, 99, 97, 108, 101]) h).trans (by decide)
 have n6 : (op.toList == [112, 111, 115, 116, 101, 114, 105, 122, 101]) = false := (lit_beq (u := [112, 111, 115, 116, 101, 114, 105, 122, 101]) h).trans (by decide)
 have n7 : (op.toList == [103, 97, 109, 109, 97]) = false := (lit_beq (u := [103, 97, 109, 109, 97]) h).trans (by decide)
 have n8 : (op.toList == [115, 119, 97, 112]) = false := (lit_beq (u := [115, 119, 97, 112]) h).trans (by decide)
 have n9 : (op.toList == [99, 104, 97, 110, 110, 101, 108]) = false := (lit_beq (u := [99, 104, 97, 110, 110, 101, 108]) h).trans (by decide)
 have n10 : (op.toList == [116, 105, 110, 116]) = false := (lit_beq (u := [116, 105, 110, 116]) h).trans (by decide)
 have n11 : (op.toList == [97, 108, 112, 104, 97]) = false := (lit_beq (u := [97, 108, 112, 104, 97]) h).trans (by decide)
 have n12 : (op.toList == [102, 108, 97, 116, 116, 101, 110]) = false := (lit_beq (u := [102, 108, 97, 116, 116, 101, 110]) h).trans (by decide)
 have n13 : (op.toList == [107, 101, 121]) = false := (lit_beq (u := [107, 101, 121]) h).trans (by decide)
 have n14 : (op.toList == [99, 104, 101, 99, 107, 101, 114]) = false := (lit_beq (u := [99, 104, 101, 99, 107, 101, 114]) h).trans (by decide)
 clear h
 go_enter Tryz.func108, Tryz.ntmps108
 go_wp2
 go_ret
 exact ⟨none, 0, rfl, SI.nil _ _ _, Below.refl _ _⟩
theorem rb20_1 {op : ByteArray} (w : World) (h : op = ba [103, 114, 101, 121]) : Calls Tryz.prog 108 #[.string op] w (Ard.SeeI w []) := by
 have n0 : (op.toList == [116, 104, 114, 101, 115, 104, 111, 108, 100]) = false := (lit_beq (u := [116, 104, 114, 101, 115, 104, 111, 108, 100]) h).trans (by decide)
 have n1 : (op.toList == [115, 111, 108, 97, 114, 105, 122, 101]) = false := (lit_beq (u := [115, 111, 108, 97, 114, 105, 122, 101]) h).trans (by decide)
 have n2 : (op.toList == [108, 101, 118, 101, 108, 115]) = false := (lit_beq (u := [108, 101, 118, 101, 108, 115]) h).trans (by decide)
 have n3 : (op.toList == [115, 113, 117, 101, 101, 122, 101]) = false := (lit_beq (u := [115, 113, 117, 101, 101, 122, 101]) h).trans (by decide)
 have n4 : (op.toList == [97, 100, 100]) = false := (lit_beq (u := [97, 100, 100]) h).trans (by decide)
 have n5 : (op.toList == [115, 99, 97, 108, 101]) = false := (lit_beq (u := [115, 99, 97, 108, 101]) h).trans (by decide)
 have n6 : (op.toList == [112, 111, 115, 116, 101, 114, 105, 122, 101]) = false := (lit_beq (u := [112, 111, 115, 116, 101, 114, 105, 122, 101]) h).trans (by decide)
 have n7 : (op.toList == [103, 97, 109, 109, 97]) = false := (lit_beq (u := [103, 97, 109, 109, 97]) h).trans (by decide)
 have n8 : (op.toList == [115, 119, 97, 112]) = false := (lit_beq (u := [115, 119, 97, 112]) h).trans (by decide)
 have n9 : (op.toList == [99, 104, 97, 110, 110, 101, 108]) = false := (lit_beq (u := [99, 104, 97, 110, 110, 101, 108]) h).trans (by decide)
 have n10 : (op.toList == [116, 105, 110, 116]) = false := (lit_beq (u := [116, 105, 110, 116]) h).trans (by decide)
 have n11 : (op.toList == [97, 108, 112, 104, 97]) = false := (lit_beq (u := [97, 108, 112, 104, 97]) h).trans (by decide)
 have n12 : (op.toList == [102, 108, 97, 116, 116, 101, 110]) = false := (lit_beq (u := [102, 108, 97, 116, 116, 101, 110]) h).trans (by decide)
 have n13 : (op.toList == [107, 101, 121]) = false := (lit_beq (u := [107, 101, 121]) h).trans (by decide)
 have n14 : (op.toList == [99, 104, 101, 99, 107, 101, 114]) = false := (lit_beq (u := [99, 104, 101, 99, 107, 101, 114]) h).trans (by decide)
 clear h
 go_enter Tryz.func108, Tryz.ntmps108
 go_wp2
 go_ret
 exact ⟨none, 0, rfl, SI.nil _ _ _, Below.refl _ _⟩
theorem rb20_2 {op : ByteArray} (w : World) (h : op = ba [116, 104, 114, 101, 115, 104, 111, 108, 100]) : Calls Tryz.prog 108 #[.string op] w (Ard.SeeI w [0, 65535]) := by
 have n0 : (op.toList == [116, 104, 114, 101, 115, 104, 111, 108, 100]) = true := (lit_beq (u := [116, 104, 114, 101, 115, 104, 111, 108, 100]) h).trans (by decide)
 have n1 : (op.toList == [115, 111, 108, 97, 114, 105, 122, 101]) = false := (lit_beq (u := [115, 111, 108, 97, 114, 105, 122, 101]) h).trans (by decide)
 have n2 : (op.toList == [108, 101, 118, 101, 108, 115]) = false := (lit_beq (u := [108, 101, 118, 101, 108, 115]) h).trans (by decide)
 have n3 : (op.toList == [115, 113, 117, 101, 101, 122, 101]) = false := (lit_beq (u := [115, 113, 117, 101, 101, 122, 101]) h).trans (by decide)
 have n4 : (op.toList == [97, 100, 100]) = false := (lit_beq (u := [97, 100, 100]) h).trans (by decide)
 have n5 : (op.toList == [115, 99, 97, 108, 101]) = false := (lit_beq (u := [115, 99, 97, 108, 101]) h).trans (by decide)
 have n6 : (op.toList == [112, 111, 115, 116, 101, 114, 105, 122, 101]) = false := (lit_beq (u := [112, 111, 115, 116, 101, 114, 105, 122, 101]) h).trans (by decide)
 have n7 : (op.toList == [103, 97, 109, 109, 97]) = false := (lit_beq (u := [103, 97, 109, 109, 97]) h).trans (by decide)
 have n8 : (op.toList == [115, 119, 97, 112]) = false := (lit_beq (u := [115, 119, 97, 112]) h).trans (by decide)
 have n9 : (op.toList == [99, 104, 97, 110, 110, 101, 108]) = false := (lit_beq (u := [99, 104, 97, 110, 110, 101, 108]) h).trans (by decide)
 have n10 : (op.toList == [116, 105, 110, 116]) = false := (lit_beq (u := [116, 105, 110, 116]) h).trans (by decide)
 have n11 : (op.toList == [97, 108, 112, 104, 97]) = false := (lit_beq (u := [97, 108, 112, 104, 97]) h).trans (by decide)
 have n12 : (op.toList == [102, 108, 97, 116, 116, 101, 110]) = false := (lit_beq (u := [102, 108, 97, 116, 116, 101, 110]) h).trans (by decide)
 have n13 : (op.toList == [107, 101, 121]) = false := (lit_beq (u := [107, 101, 121]) h).trans (by decide)
 have n14 : (op.toList == [99, 104, 101, 99, 107, 101, 114]) = false := (lit_beq (u := [99, 104, 101, 99, 107, 101, 114]) h).trans (by decide)
 have H := Lib.hid (Ard.SI.lit w [0, 65535] 3 (by decide))
 clear h
 go_enter Tryz.func108, Tryz.ntmps108
 go_wp2
 go_ret
 exact ⟨_, _, rfl, H.out, (Below.refl _ w).alloc (Nat.le_refl _) _⟩
theorem rb20_3 {op : ByteArray} (w : World) (h : op = ba [108, 101, 118, 101, 108, 115]) : Calls Tryz.prog 108 #[.string op] w (Ard.SeeI w [0, 65535, 0, 65535]) := by
 have n0 : (op.toList == [116, 104, 114, 101, 115, 104, 111, 108, 100]) = false := (lit_beq (u := [116, 104, 114, 101, 115, 104, 111, 108, 100]) h).trans (by decide)
 have n1 : (op.toList == [115, 111, 108, 97, 114, 105, 122, 101]) = false := (lit_beq (u := [115, 111, 108, 97, 114, 105, 122, 101]) h).trans (by decide)
 have n2 : (op.toList == [108, 101, 118, 101, 108, 115]) = true := (lit_beq (u := [108, 101, 118, 101, 108, 115]) h).trans (by decide)
 have n3 : (op.toList == [115, 113, 117, 101, 101, 122, 101]) = false := (lit_beq (u := [115, 113, 117, 101, 101, 122, 101]) h).trans (by decide)
 have n4 : (op.toList == [97, 100, 100]) = false := (lit_beq (u := [97, 100, 100]) h).trans (by decide)
 have n5 : (op.toList == [115, 99, 97, 108, 101]) = false := (lit_beq (u := [115, 99, 97, 108, 101]) h).trans (by decide)
 have n6 : (op.toList == [112, 111, 115, 116, 101, 114, 105, 122, 101]) = false := (lit_beq (u := [112, 111, 115, 116, 101, 114, 105, 122, 101]) h).trans (by decide)
 have n7 : (op.toList == [103, 97, 109, 109, 97]) = false := (lit_beq (u := [103, 97, 109, 109, 97]) h).trans (by decide)
 have n8 : (op.toList == [115, 119, 97, 112]) = false := (lit_beq (u := [115, 119, 97, 112]) h).trans (by decide)
 have n9 : (op.toList == [99, 104, 97, 110, 110, 101, 108]) = false := (lit_beq (u := [99, 104, 97, 110, 110, 101, 108]) h).trans (by decide)
 have n10 : (op.toList == [116, 105, 110, 116]) = false := (lit_beq (u := [116, 105, 110, 116]) h).trans (by decide)
 have n11 : (op.toList == [97, 108, 112, 104, 97]) = false := (lit_beq (u := [97, 108, 112, 104, 97]) h).trans (by decide)
 have n12 : (op.toList == [102, 108, 97, 116, 116, 101, 110]) = false := (lit_beq (u := [102, 108, 97, 116, 116, 101, 110]) h).trans (by decide)
 have n13 : (op.toList == [107, 101, 121]) = false := (lit_beq (u := [107, 101, 121]) h).trans (by decide)
 have n14 : (op.toList == [99, 104, 101, 99, 107, 101, 114]) = false := (lit_beq (u := [99, 104, 101, 99, 107, 101, 114]) h).trans (by decide)
 have H := Lib.hid (Ard.SI.lit w [0, 65535, 0, 65535] 3 (by decide))
 clear h
 go_enter Tryz.func108, Tryz.ntmps108
 go_wp2
 go_ret
 exact ⟨_, _, rfl, H.out, (Below.refl _ w).alloc (Nat.le_refl _) _⟩
theorem rb20_4 {op : ByteArray} (w : World) (h : op = ba [115, 113, 117, 101, 101, 122, 101]) : Calls Tryz.prog 108 #[.string op] w (Ard.SeeI w [0, 65535, 0, 65535]) := by
 have n0 : (op.toList == [116, 104, 114, 101, 115, 104, 111, 108, 100]) = false := (lit_beq (u := [116, 104, 114, 101, 115, 104, 111, 108, 100]) h).trans (by decide)
 have n1 : (op.toList == [115, 111, 108, 97, 114, 105, 122, 101]) = false := (lit_beq (u := [115, 111, 108, 97, 114, 105, 122, 101]) h).trans (by decide)
 have n2 : (op.toList == [108, 101, 118, 101, 108, 115]) = false := (lit_beq (u := [108, 101, 118, 101, 108, 115]) h).trans (by decide)
 have n3 : (op.toList == [115, 113, 117, 101, 101, 122, 101]) = true := (lit_beq (u := [115, 113, 117, 101, 101, 122, 101]) h).trans (by decide)
 have n4 : (op.toList == [97, 100, 100]) = false := (lit_beq (u := [97, 100, 100]) h).trans (by decide)
 have n5 : (op.toList == [115, 99, 97, 108, 101]) = false := (lit_beq (u := [115, 99, 97, 108, 101]) h).trans (by decide)
 have n6 : (op.toList == [112, 111, 115, 116, 101, 114, 105, 122, 101]) = false := (lit_beq (u := [112, 111, 115, 116, 101, 114, 105, 122, 101]) h).trans (by decide)
 have n7 : (op.toList == [103, 97, 109, 109, 97]) = false := (lit_beq (u := [103, 97, 109, 109, 97]) h).trans (by decide)
 have n8 : (op.toList == [115, 119, 97, 112]) = false := (lit_beq (u := [115, 119, 97, 112]) h).trans (by decide)
 have n9 : (op.toList == [99, 104, 97, 110, 110, 101, 108]) = false := (lit_beq (u := [99, 104, 97, 110, 110, 101, 108]) h).trans (by decide)
 have n10 : (op.toList == [116, 105, 110, 116]) = false := (lit_beq (u := [116, 105, 110, 116]) h).trans (by decide)
 have n11 : (op.toList == [97, 108, 112, 104, 97]) = false := (lit_beq (u := [97, 108, 112, 104, 97]) h).trans (by decide)
 have n12 : (op.toList == [102, 108, 97, 116, 116, 101, 110]) = false := (lit_beq (u := [102, 108, 97, 116, 116, 101, 110]) h).trans (by decide)
 have n13 : (op.toList == [107, 101, 121]) = false := (lit_beq (u := [107, 101, 121]) h).trans (by decide)
 have n14 : (op.toList == [99, 104, 101, 99, 107, 101, 114]) = false := (lit_beq (u := [99, 104, 101, 99, 107, 101, 114]) h).trans (by decide)
 have H := Lib.hid (Ard.SI.lit w [0, 65535, 0, 65535] 3 (by decide))
 clear h
 go_enter Tryz.func108, Tryz.ntmps108
 go_wp2
 go_ret
 exact ⟨_, _, rfl, H.out, (Below.refl _ w).alloc (Nat.le_refl _) _⟩
theorem rb20_5 {op : ByteArray} (w : World) (h : op = ba [97, 100, 100]) : Calls Tryz.prog 108 #[.string op] w (Ard.SeeI w [-65535, 65535]) := by
 have n0 : (op.toList == [116, 104, 114, 101, 115, 104, 111, 108, 100]) = false := (lit_beq (u := [116, 104, 114, 101, 115, 104, 111, 108, 100]) h).trans (by decide)
 have n1 : (op.toList == [115, 111, 108, 97, 114, 105, 122, 101]) = false := (lit_beq (u := [115, 111, 108, 97, 114, 105, 122, 101]) h).trans (by decide)
 have n2 : (op.toList == [108, 101, 118, 101, 108, 115]) = false := (lit_beq (u := [108, 101, 118, 101, 108, 115]) h).trans (by decide)
 have n3 : (op.toList == [115, 113, 117, 101, 101, 122, 101]) = false := (lit_beq (u := [115, 113, 117, 101, 101, 122, 101]) h).trans (by decide)
 have n4 : (op.toList == [97, 100, 100]) = true := (lit_beq (u := [97, 100, 100]) h).trans (by decide)
 have n5 : (op.toList == [115, 99, 97, 108, 101]) = false := (lit_beq (u := [115, 99, 97, 108, 101]) h).trans (by decide)
 have n6 : (op.toList == [112, 111, 115, 116, 101, 114, 105, 122, 101]) = false := (lit_beq (u := [112, 111, 115, 116, 101, 114, 105, 122, 101]) h).trans (by decide)
 have n7 : (op.toList == [103, 97, 109, 109, 97]) = false := (lit_beq (u := [103, 97, 109, 109, 97]) h).trans (by decide)
 have n8 : (op.toList == [115, 119, 97, 112]) = false := (lit_beq (u := [115, 119, 97, 112]) h).trans (by decide)
 have n9 : (op.toList == [99, 104, 97, 110, 110, 101, 108]) = false := (lit_beq (u := [99, 104, 97, 110, 110, 101, 108]) h).trans (by decide)
 have n10 : (op.toList == [116, 105, 110, 116]) = false := (lit_beq (u := [116, 105, 110, 116]) h).trans (by decide)
 have n11 : (op.toList == [97, 108, 112, 104, 97]) = false := (lit_beq (u := [97, 108, 112, 104, 97]) h).trans (by decide)
 have n12 : (op.toList == [102, 108, 97, 116, 116, 101, 110]) = false := (lit_beq (u := [102, 108, 97, 116, 116, 101, 110]) h).trans (by decide)
 have n13 : (op.toList == [107, 101, 121]) = false := (lit_beq (u := [107, 101, 121]) h).trans (by decide)
 have n14 : (op.toList == [99, 104, 101, 99, 107, 101, 114]) = false := (lit_beq (u := [99, 104, 101, 99, 107, 101, 114]) h).trans (by decide)
 have H := Lib.hid (Ard.SI.lit w [-65535, 65535] 3 (by decide))
 clear h
 go_enter Tryz.func108, Tryz.ntmps108
 go_wp2
 go_ret
 exact ⟨_, _, rfl, H.out, (Below.refl _ w).alloc (Nat.le_refl _) _⟩
theorem rb20_6 {op : ByteArray} (w : World) (h : op = ba [115, 99, 97, 108, 101]) : Calls Tryz.prog 108 #[.string op] w (Ard.SeeI w [0, 65535, 1, 65535]) := by
 have n0 : (op.toList == [116, 104, 114, 101, 115, 104, 111, 108, 100]) = false := (lit_beq (u := [116, 104, 114, 101, 115, 104, 111, 108, 100]) h).trans (by decide)
 have n1 : (op.toList == [115, 111, 108, 97, 114, 105, 122, 101]) = false := (lit_beq (u := [115, 111, 108, 97, 114, 105, 122, 101]) h).trans (by decide)
 have n2 : (op.toList == [108, 101, 118, 101, 108, 115]) = false := (lit_beq (u := [108, 101, 118, 101, 108, 115]) h).trans (by decide)
 have n3 : (op.toList == [115, 113, 117, 101, 101, 122, 101]) = false := (lit_beq (u := [115, 113, 117, 101, 101, 122, 101]) h).trans (by decide)
 have n4 : (op.toList == [97, 100, 100]) = false := (lit_beq (u := [97, 100, 100]) h).trans (by decide)
 have n5 : (op.toList == [115, 99, 97, 108, 101]) = true := (lit_beq (u := [115, 99, 97, 108, 101]) h).trans (by decide)
 have n6 : (op.toList == [112, 111, 115, 116, 101, 114, 105, 122, 101]) = false := (lit_beq (u := [112, 111, 115, 116, 101, 114, 105, 122, 101]) h).trans (by decide)
 have n7 : (op.toList == [103, 97, 109, 109, 97]) = false := (lit_beq (u := [103, 97, 109, 109, 97]) h).trans (by decide)
 have n8 : (op.toList == [115, 119, 97, 112]) = false := (lit_beq (u := [115, 119, 97, 112]) h).trans (by decide)
 have n9 : (op.toList == [99, 104, 97, 110, 110, 101, 108]) = false := (lit_beq (u := [99, 104, 97, 110, 110, 101, 108]) h).trans (by decide)
 have n10 : (op.toList == [116, 105, 110, 116]) = false := (lit_beq (u := [116, 105, 110, 116]) h).trans (by decide)
 have n11 : (op.toList == [97, 108, 112, 104, 97]) = false := (lit_beq (u := [97, 108, 112, 104, 97]) h).trans (by decide)
 have n12 : (op.toList == [102, 108, 97, 116, 116, 101, 110]) = false := (lit_beq (u := [102, 108, 97, 116, 116, 101, 110]) h).trans (by decide)
 have n13 : (op.toList == [107, 101, 121]) = false := (lit_beq (u := [107, 101, 121]) h).trans (by decide)
 have n14 : (op.toList == [99, 104, 101, 99, 107, 101, 114]) = false := (lit_beq (u := [99, 104, 101, 99, 107, 101, 114]) h).trans (by decide)
 have H := Lib.hid (Ard.SI.lit w [0, 65535, 1, 65535] 3 (by decide))
 clear h
 go_enter Tryz.func108, Tryz.ntmps108
 go_wp2
 go_ret
 exact ⟨_, _, rfl, H.out, (Below.refl _ w).alloc (Nat.le_refl _) _⟩
theorem rb20_7 {op : ByteArray} (w : World) (h : op = ba [112, 111, 115, 116, 101, 114, 105, 122, 101]) : Calls Tryz.prog 108 #[.string op] w (Ard.SeeI w [2, 256]) := by
 have n0 : (op.toList == [116, 104, 114, 101, 115, 104, 111, 108, 100]) = false := (lit_beq (u := [116, 104, 114, 101, 115, 104, 111, 108, 100]) h).trans (by decide)
 have n1 : (op.toList == [115, 111, 108, 97, 114, 105, 122, 101]) = false := (lit_beq (u := [115, 111, 108, 97, 114, 105, 122, 101]) h).trans (by decide)
 have n2 : (op.toList == [108, 101, 118, 101, 108, 115]) = false := (lit_beq (u := [108, 101, 118, 101, 108, 115]) h).trans (by decide)
 have n3 : (op.toList == [115, 113, 117, 101, 101, 122, 101]) = false := (lit_beq (u := [115, 113, 117, 101, 101, 122, 101]) h).trans (by decide)
 have n4 : (op.toList == [97, 100, 100]) = false := (lit_beq (u := [97, 100, 100]) h).trans (by decide)
 have n5 : (op.toList == [115, 99, 97, 108, 101]) = false := (lit_beq (u := [115, 99, 97, 108, 101]) h).trans (by decide)
 have n6 : (op.toList == [112, 111, 115, 116, 101, 114, 105, 122, 101]) = true := (lit_beq (u := [112, 111, 115, 116, 101, 114, 105, 122, 101]) h).trans (by decide)
 have n7 : (op.toList == [103, 97, 109, 109, 97]) = false := (lit_beq (u := [103, 97, 109, 109, 97]) h).trans (by decide)
 have n8 : (op.toList == [115, 119, 97, 112]) = false := (lit_beq (u := [115, 119, 97, 112]) h).trans (by decide)
 have n9 : (op.toList == [99, 104, 97, 110, 110, 101, 108]) = false := (lit_beq (u := [99, 104, 97, 110, 110, 101, 108]) h).trans (by decide)
 have n10 : (op.toList == [116, 105, 110, 116]) = false := (lit_beq (u := [116, 105, 110, 116]) h).trans (by decide)
 have n11 : (op.toList == [97, 108, 112, 104, 97]) = false := (lit_beq (u := [97, 108, 112, 104, 97]) h).trans (by decide)
 have n12 : (op.toList == [102, 108, 97, 116, 116, 101, 110]) = false := (lit_beq (u := [102, 108, 97, 116, 116, 101, 110]) h).trans (by decide)
 have n13 : (op.toList == [107, 101, 121]) = false := (lit_beq (u := [107, 101, 121]) h).trans (by decide)
 have n14 : (op.toList == [99, 104, 101, 99, 107, 101, 114]) = false := (lit_beq (u := [99, 104, 101, 99, 107, 101, 114]) h).trans (by decide)
 have H := Lib.hid (Ard.SI.lit w [2, 256] 3 (by decide))
 clear h
 go_enter Tryz.func108, Tryz.ntmps108
 go_wp2
 go_ret
 exact ⟨_, _, rfl, H.out, (Below.refl _ w).alloc (Nat.le_refl _) _⟩
theorem rb20_8 {op : ByteArray} (w : World) (h : op = ba [115, 111, 108, 97, 114, 105, 122, 101]) : Calls Tryz.prog 108 #[.string op] w (Ard.SeeI w [0, 65535]) := by
 have n0 : (op.toList == [116, 104, 114, 101, 115, 104, 111, 108, 100]) = false := (lit_beq (u := [116, 104, 114, 101, 115, 104, 111, 108, 100]) h).trans (by decide)
 have n1 : (op.toList == [115, 111, 108, 97, 114, 105, 122, 101]) = true := (lit_beq (u := [115, 111, 108, 97, 114, 105, 122, 101]) h).trans (by decide)
 have n2 : (op.toList == [108, 101, 118, 101, 108, 115]) = false := (lit_beq (u := [108, 101, 118, 101, 108, 115]) h).trans (by decide)
 have n3 : (op.toList == [115, 113, 117, 101, 101, 122, 101]) = false := (lit_beq (u := [115, 113, 117, 101, 101, 122, 101]) h).trans (by decide)
 have n4 : (op.toList == [97, 100, 100]) = false := (lit_beq (u := [97, 100, 100]) h).trans (by decide)
 have n5 : (op.toList == [115, 99, 97, 108, 101]) = false := (lit_beq (u := [115, 99, 97, 108, 101]) h).trans (by decide)
 have n6 : (op.toList == [112, 111, 115, 116, 101, 114, 105, 122, 101]) = false := (lit_beq (u := [112, 111, 115, 116, 101, 114, 105, 122, 101]) h).trans (by decide)
 have n7 : (op.toList == [103, 97, 109, 109, 97]) = false := (lit_beq (u := [103, 97, 109, 109, 97]) h).trans (by decide)
 have n8 : (op.toList == [115, 119, 97, 112]) = false := (lit_beq (u := [115, 119, 97, 112]) h).trans (by decide)
 have n9 : (op.toList == [99, 104, 97, 110, 110, 101, 108]) = false := (lit_beq (u := [99, 104, 97, 110, 110, 101, 108]) h).trans (by decide)
 have n10 : (op.toList == [116, 105, 110, 116]) = false := (lit_beq (u := [116, 105, 110, 116]) h).trans (by decide)
 have n11 : (op.toList == [97, 108, 112, 104, 97]) = false := (lit_beq (u := [97, 108, 112, 104, 97]) h).trans (by decide)
 have n12 : (op.toList == [102, 108, 97, 116, 116, 101, 110]) = false := (lit_beq (u := [102, 108, 97, 116, 116, 101, 110]) h).trans (by decide)
 have n13 : (op.toList == [107, 101, 121]) = false := (lit_beq (u := [107, 101, 121]) h).trans (by decide)
 have n14 : (op.toList == [99, 104, 101, 99, 107, 101, 114]) = false := (lit_beq (u := [99, 104, 101, 99, 107, 101, 114]) h).trans (by decide)
 have H := Lib.hid (Ard.SI.lit w [0, 65535] 3 (by decide))
 clear h
 go_enter Tryz.func108, Tryz.ntmps108
 go_wp2
 go_ret
 exact ⟨_, _, rfl, H.out, (Below.refl _ w).alloc (Nat.le_refl _) _⟩
theorem rb20_9 {op : ByteArray} (w : World) (h : op = ba [103, 97, 109, 109, 97]) : Calls Tryz.prog 108 #[.string op] w (Ard.SeeI w [1, 3]) := by
 have n0 : (op.toList == [116, 104, 114, 101, 115, 104, 111, 108, 100]) = false := (lit_beq (u := [116, 104, 114, 101, 115, 104, 111, 108, 100]) h).trans (by decide)
 have n1 : (op.toList == [115, 111, 108, 97, 114, 105, 122, 101]) = false := (lit_beq (u := [115, 111, 108, 97, 114, 105, 122, 101]) h).trans (by decide)
 have n2 : (op.toList == [108, 101, 118, 101, 108, 115]) = false := (lit_beq (u := [108, 101, 118, 101, 108, 115]) h).trans (by decide)
 have n3 : (op.toList == [115, 113, 117, 101, 101, 122, 101]) = false := (lit_beq (u := [115, 113, 117, 101, 101, 122, 101]) h).trans (by decide)
 have n4 : (op.toList == [97, 100, 100]) = false := (lit_beq (u := [97, 100, 100]) h).trans (by decide)
 have n5 : (op.toList == [115, 99, 97, 108, 101]) = false := (lit_beq (u := [115, 99, 97, 108, 101]) h).trans (by decide)
 have n6 : (op.toList == [112, 111, 115, 116, 101, 114, 105, 122, 101]) = false := (lit_beq (u := [112, 111, 115, 116, 101, 114, 105, 122, 101]) h).trans (by decide)
 have n7 : (op.toList == [103, 97, 109, 109, 97]) = true := (lit_beq (u := [103, 97, 109, 109, 97]) h).trans (by decide)
 have n8 : (op.toList == [115, 119, 97, 112]) = false := (lit_beq (u := [115, 119, 97, 112]) h).trans (by decide)
 have n9 : (op.toList == [99, 104, 97, 110, 110, 101, 108]) = false := (lit_beq (u := [99, 104, 97, 110, 110, 101, 108]) h).trans (by decide)
 have n10 : (op.toList == [116, 105, 110, 116]) = false := (lit_beq (u := [116, 105, 110, 116]) h).trans (by decide)
 have n11 : (op.toList == [97, 108, 112, 104, 97]) = false := (lit_beq (u := [97, 108, 112, 104, 97]) h).trans (by decide)
 have n12 : (op.toList == [102, 108, 97, 116, 116, 101, 110]) = false := (lit_beq (u := [102, 108, 97, 116, 116, 101, 110]) h).trans (by decide)
 have n13 : (op.toList == [107, 101, 121]) = false := (lit_beq (u := [107, 101, 121]) h).trans (by decide)
 have n14 : (op.toList == [99, 104, 101, 99, 107, 101, 114]) = false := (lit_beq (u := [99, 104, 101, 99, 107, 101, 114]) h).trans (by decide)
 have H := Lib.hid (Ard.SI.lit w [1, 3] 3 (by decide))
 clear h
 go_enter Tryz.func108, Tryz.ntmps108
 go_wp2
 go_ret
 exact ⟨_, _, rfl, H.out, (Below.refl _ w).alloc (Nat.le_refl _) _⟩
theorem rb20_10 {op : ByteArray} (w : World) (h : op = ba [115, 119, 97, 112]) : Calls Tryz.prog 108 #[.string op] w (Ard.SeeI w [1, 5]) := by
 have n0 : (op.toList == [116, 104, 114, 101, 115, 104, 111, 108, 100]) = false := (lit_beq (u := [116, 104, 114, 101, 115, 104, 111, 108, 100]) h).trans (by decide)
 have n1 : (op.toList == [115, 111, 108, 97, 114, 105, 122, 101]) = false := (lit_beq (u := [115, 111, 108, 97, 114, 105, 122, 101]) h).trans (by decide)
 have n2 : (op.toList == [108, 101, 118, 101, 108, 115]) = false := (lit_beq (u := [108, 101, 118, 101, 108, 115]) h).trans (by decide)
 have n3 : (op.toList == [115, 113, 117, 101, 101, 122, 101]) = false := (lit_beq (u := [115, 113, 117, 101, 101, 122, 101]) h).trans (by decide)
 have n4 : (op.toList == [97, 100, 100]) = false := (lit_beq (u := [97, 100, 100]) h).trans (by decide)
 have n5 : (op.toList == [115, 99, 97, 108, 101]) = false := (lit_beq (u := [115, 99, 97, 108, 101]) h).trans (by decide)
 have n6 : (op.toList == [112, 111, 115, 116, 101, 114, 105, 122, 101]) = false := (lit_beq (u := [112, 111, 115, 116, 101, 114, 105, 122, 101]) h).trans (by decide)
 have n7 : (op.toList == [103, 97, 109, 109, 97]) = false := (lit_beq (u := [103, 97, 109, 109, 97]) h).trans (by decide)
 have n8 : (op.toList == [115, 119, 97, 112]) = true := (lit_beq (u := [115, 119, 97, 112]) h).trans (by decide)
 have n9 : (op.toList == [99, 104, 97, 110, 110, 101, 108]) = false := (lit_beq (u := [99, 104, 97, 110, 110, 101, 108]) h).trans (by decide)
 have n10 : (op.toList == [116, 105, 110, 116]) = false := (lit_beq (u := [116, 105, 110, 116]) h).trans (by decide)
 have n11 : (op.toList == [97, 108, 112, 104, 97]) = false := (lit_beq (u := [97, 108, 112, 104, 97]) h).trans (by decide)
 have n12 : (op.toList == [102, 108, 97, 116, 116, 101, 110]) = false := (lit_beq (u := [102, 108, 97, 116, 116, 101, 110]) h).trans (by decide)
 have n13 : (op.toList == [107, 101, 121]) = false := (lit_beq (u := [107, 101, 121]) h).trans (by decide)
 have n14 : (op.toList == [99, 104, 101, 99, 107, 101, 114]) = false := (lit_beq (u := [99, 104, 101, 99, 107, 101, 114]) h).trans (by decide)
 have H := Lib.hid (Ard.SI.lit w [1, 5] 3 (by decide))
 clear h
 go_enter Tryz.func108, Tryz.ntmps108
 go_wp2
 go_ret
 exact ⟨_, _, rfl, H.out, (Below.refl _ w).alloc (Nat.le_refl _) _⟩
theorem rb20_11 {op : ByteArray} (w : World) (h : op = ba [99, 104, 97, 110, 110, 101, 108]) : Calls Tryz.prog 108 #[.string op] w (Ard.SeeI w [0, 3]) := by
 have n0 : (op.toList == [116, 104, 114, 101, 115, 104, 111, 108, 100]) = false := (lit_beq (u := [116, 104, 114, 101, 115, 104, 111, 108, 100]) h).trans (by decide)
 have n1 : (op.toList == [115, 111, 108, 97, 114, 105, 122, 101]) = false := (lit_beq (u := [115, 111, 108, 97, 114, 105, 122, 101]) h).trans (by decide)
 have n2 : (op.toList == [108, 101, 118, 101, 108, 115]) = false := (lit_beq (u := [108, 101, 118, 101, 108, 115]) h).trans (by decide)
 have n3 : (op.toList == [115, 113, 117, 101, 101, 122, 101]) = false := (lit_beq (u := [115, 113, 117, 101, 101, 122, 101]) h).trans (by decide)
 have n4 : (op.toList == [97, 100, 100]) = false := (lit_beq (u := [97, 100, 100]) h).trans (by decide)
 have n5 : (op.toList == [115, 99, 97, 108, 101]) = false := (lit_beq (u := [115, 99, 97, 108, 101]) h).trans (by decide)
 have n6 : (op.toList == [112, 111, 115, 116, 101, 114, 105, 122, 101]) = false := (lit_beq (u := [112, 111, 115, 116, 101, 114, 105, 122, 101]) h).trans (by decide)
 have n7 : (op.toList == [103, 97, 109, 109, 97]) = false := (lit_beq (u := [103, 97, 109, 109, 97]) h).trans (by decide)
 have n8 : (op.toList == [115, 119, 97, 112]) = false := (lit_beq (u := [115, 119, 97, 112]) h).trans (by decide)
 have n9 : (op.toList == [99, 104, 97, 110, 110, 101, 108]) = true := (lit_beq (u := [99, 104, 97, 110, 110, 101, 108]) h).trans (by decide)
 have n10 : (op.toList == [116, 105, 110, 116]) = false := (lit_beq (u := [116, 105, 110, 116]) h).trans (by decide)
 have n11 : (op.toList == [97, 108, 112, 104, 97]) = false := (lit_beq (u := [97, 108, 112, 104, 97]) h).trans (by decide)
 have n12 : (op.toList == [102, 108, 97, 116, 116, 101, 110]) = false := (lit_beq (u := [102, 108, 97, 116, 116, 101, 110]) h).trans (by decide)
 have n13 : (op.toList == [107, 101, 121]) = false := (lit_beq (u := [107, 101, 121]) h).trans (by decide)
 have n14 : (op.toList == [99, 104, 101, 99, 107, 101, 114]) = false := (lit_beq (u := [99, 104, 101, 99, 107, 101, 114]) h).trans (by decide)
 have H := Lib.hid (Ard.SI.lit w [0, 3] 3 (by decide))
 clear h
 go_enter Tryz.func108, Tryz.ntmps108
 go_wp2
 go_ret
 exact ⟨_, _, rfl, H.out, (Below.refl _ w).alloc (Nat.le_refl _) _⟩
theorem rb20_12 {op : ByteArray} (w : World) (h : op = ba [115, 101, 112, 105, 97]) : Calls Tryz.prog 108 #[.string op] w (Ard.SeeI w []) := by
 have n0 : (op.toList == [116, 104, 114, 101, 115, 104, 111, 108, 100]) = false := (lit_beq (u := [116, 104, 114, 101, 115, 104, 111, 108, 100]) h).trans (by decide)
 have n1 : (op.toList == [115, 111, 108, 97, 114, 105, 122, 101]) = false := (lit_beq (u := [115, 111, 108, 97, 114, 105, 122, 101]) h).trans (by decide)
 have n2 : (op.toList == [108, 101, 118, 101, 108, 115]) = false := (lit_beq (u := [108, 101, 118, 101, 108, 115]) h).trans (by decide)
 have n3 : (op.toList == [115, 113, 117, 101, 101, 122, 101]) = false := (lit_beq (u := [115, 113, 117, 101, 101, 122, 101]) h).trans (by decide)
 have n4 : (op.toList == [97, 100, 100]) = false := (lit_beq (u := [97, 100, 100]) h).trans (by decide)
 have n5 : (op.toList == [115, 99, 97, 108, 101]) = false := (lit_beq (u := [115, 99, 97, 108, 101]) h).trans (by decide)
 have n6 : (op.toList == [112, 111, 115, 116, 101, 114, 105, 122, 101]) = false := (lit_beq (u := [112, 111, 115, 116, 101, 114, 105, 122, 101]) h).trans (by decide)
 have n7 : (op.toList == [103, 97, 109, 109, 97]) = false := (lit_beq (u := [103, 97, 109, 109, 97]) h).trans (by decide)
 have n8 : (op.toList == [115, 119, 97, 112]) = false := (lit_beq (u := [115, 119, 97, 112]) h).trans (by decide)
 have n9 : (op.toList == [99, 104, 97, 110, 110, 101, 108]) = false := (lit_beq (u := [99, 104, 97, 110, 110, 101, 108]) h).trans (by decide)
 have n10 : (op.toList == [116, 105, 110, 116]) = false := (lit_beq (u := [116, 105, 110, 116]) h).trans (by decide)
 have n11 : (op.toList == [97, 108, 112, 104, 97]) = false := (lit_beq (u := [97, 108, 112, 104, 97]) h).trans (by decide)
 have n12 : (op.toList == [102, 108, 97, 116, 116, 101, 110]) = false := (lit_beq (u := [102, 108, 97, 116, 116, 101, 110]) h).trans (by decide)
 have n13 : (op.toList == [107, 101, 121]) = false := (lit_beq (u := [107, 101, 121]) h).trans (by decide)
 have n14 : (op.toList == [99, 104, 101, 99, 107, 101, 114]) = false := (lit_beq (u := [99, 104, 101, 99, 107, 101, 114]) h).trans (by decide)
 clear h
 go_enter Tryz.func108, Tryz.ntmps108
 go_wp2
 go_ret
 exact ⟨none, 0, rfl, SI.nil _ _ _, Below.refl _ _⟩
theorem rb20_13 {op : ByteArray} (w : World) (h : op = ba [116, 105, 110, 116]) : Calls Tryz.prog 108 #[.string op] w (Ard.SeeI w [0, 65535, 0, 65535, 0, 65535, 0, 256]) := by
 have n0 : (op.toList == [116, 104, 114, 101, 115, 104, 111, 108, 100]) = false := (lit_beq (u := [116, 104, 114, 101, 115, 104, 111, 108, 100]) h).trans (by decide)
 have n1 : (op.toList == [115, 111, 108, 97, 114, 105, 122, 101]) = false := (lit_beq (u := [115, 111, 108, 97, 114, 105, 122, 101]) h).trans (by decide)
 have n2 : (op.toList == [108, 101, 118, 101, 108, 115]) = false := (lit_beq (u := [108, 101, 118, 101, 108, 115]) h).trans (by decide)
 have n3 : (op.toList == [115, 113, 117, 101, 101, 122, 101]) = false := (lit_beq (u := [115, 113, 117, 101, 101, 122, 101]) h).trans (by decide)
 have n4 : (op.toList == [97, 100, 100]) = false := (lit_beq (u := [97, 100, 100]) h).trans (by decide)
 have n5 : (op.toList == [115, 99, 97, 108, 101]) = false := (lit_beq (u := [115, 99, 97, 108, 101]) h).trans (by decide)
 have n6 : (op.toList == [112, 111, 115, 116, 101, 114, 105, 122, 101]) = false := (lit_beq (u := [112, 111, 115, 116, 101, 114, 105, 122, 101]) h).trans (by decide)
 have n7 : (op.toList == [103, 97, 109, 109, 97]) = false := (lit_beq (u := [103, 97, 109, 109, 97]) h).trans (by decide)
 have n8 : (op.toList == [115, 119, 97, 112]) = false := (lit_beq (u := [115, 119, 97, 112]) h).trans (by decide)
 have n9 : (op.toList == [99, 104, 97, 110, 110, 101, 108]) = false := (lit_beq (u := [99, 104, 97, 110, 110, 101, 108]) h).trans (by decide)
 have n10 : (op.toList == [116, 105, 110, 116]) = true := (lit_beq (u := [116, 105, 110, 116]) h).trans (by decide)
 have n11 : (op.toList == [97, 108, 112, 104, 97]) = false := (lit_beq (u := [97, 108, 112, 104, 97]) h).trans (by decide)
 have n12 : (op.toList == [102, 108, 97, 116, 116, 101, 110]) = false := (lit_beq (u := [102, 108, 97, 116, 116, 101, 110]) h).trans (by decide)
 have n13 : (op.toList == [107, 101, 121]) = false := (lit_beq (u := [107, 101, 121]) h).trans (by decide)
 have n14 : (op.toList == [99, 104, 101, 99, 107, 101, 114]) = false := (lit_beq (u := [99, 104, 101, 99, 107, 101, 114]) h).trans (by decide)
 have H := Lib.hid (Ard.SI.lit w [0, 65535, 0, 65535, 0, 65535, 0, 256] 3 (by decide))
 clear h
 go_enter Tryz.func108, Tryz.ntmps108
 go_wp2
 go_ret
 exact ⟨_, _, rfl, H.out, (Below.refl _ w).alloc (Nat.le_refl _) _⟩
theorem rb20_14 {op : ByteArray} (w : World) (h : op = ba [111, 112, 97, 113, 117, 101]) : Calls Tryz.prog 108 #[.string op] w (Ard.SeeI w []) := by
 have n0 : (op.toList == [116, 104, 114, 101, 115, 104, 111, 108, 100]) = false := (lit_beq (u := [116, 104, 114, 101, 115, 104, 111, 108, 100]) h).trans (by decide)
 have n1 : (op.toList == [115, 111, 108, 97, 114, 105, 122, 101]) = false := (lit_beq (u := [115, 111, 108, 97, 114, 105, 122, 101]) h).trans (by decide)
 have n2 : (op.toList == [108, 101, 118, 101, 108, 115]) = false := (lit_beq (u := [108, 101, 118, 101, 108, 115]) h).trans (by decide)
 have n3 : (op.toList == [115, 113, 117, 101, 101, 122, 101]) = false := (lit_beq (u := [115, 113, 117, 101, 101, 122, 101]) h).trans (by decide)
 have n4 : (op.toList == [97, 100, 100]) = false := (lit_beq (u := [97, 100, 100]) h).trans (by decide)
 have n5 : (op.toList == [115, 99, 97, 108, 101]) = false := (lit_beq (u := [115, 99, 97, 108, 101]) h).trans (by decide)
 have n6 : (op.toList == [112, 111, 115, 116, 101, 114, 105, 122, 101]) = false := (lit_beq (u := [112, 111, 115, 116, 101, 114, 105, 122, 101]) h).trans (by decide)
 have n7 : (op.toList == [103, 97, 109, 109, 97]) = false := (lit_beq (u := [103, 97, 109, 109, 97]) h).trans (by decide)
 have n8 : (op.toList == [115, 119, 97, 112]) = false := (lit_beq (u := [115, 119, 97, 112]) h).trans (by decide)
 have n9 : (op.toList == [99, 104, 97, 110, 110, 101, 108]) = false := (lit_beq (u := [99, 104, 97, 110, 110, 101, 108]) h).trans (by decide)
 have n10 : (op.toList == [116, 105, 110, 116]) = false := (lit_beq (u := [116, 105, 110, 116]) h).trans (by decide)
 have n11 : (op.toList == [97, 108, 112, 104, 97]) = false := (lit_beq (u := [97, 108, 112, 104, 97]) h).trans (by decide)
 have n12 : (op.toList == [102, 108, 97, 116, 116, 101, 110]) = false := (lit_beq (u := [102, 108, 97, 116, 116, 101, 110]) h).trans (by decide)
 have n13 : (op.toList == [107, 101, 121]) = false := (lit_beq (u := [107, 101, 121]) h).trans (by decide)
 have n14 : (op.toList == [99, 104, 101, 99, 107, 101, 114]) = false := (lit_beq (u := [99, 104, 101, 99, 107, 101, 114]) h).trans (by decide)
 clear h
 go_enter Tryz.func108, Tryz.ntmps108
 go_wp2
 go_ret
 exact ⟨none, 0, rfl, SI.nil _ _ _, Below.refl _ _⟩
theorem rb20_15 {op : ByteArray} (w : World) (h : op = ba [97, 108, 112, 104, 97]) : Calls Tryz.prog 108 #[.string op] w (Ard.SeeI w [0, 256]) := by
 have n0 : (op.toList == [116, 104, 114, 101, 115, 104, 111, 108, 100]) = false := (lit_beq (u := [116, 104, 114, 101, 115, 104, 111, 108, 100]) h).trans (by decide)
 have n1 : (op.toList == [115, 111, 108, 97, 114, 105, 122, 101]) = false := (lit_beq (u := [115, 111, 108, 97, 114, 105, 122, 101]) h).trans (by decide)
 have n2 : (op.toList == [108, 101, 118, 101, 108, 115]) = false := (lit_beq (u := [108, 101, 118, 101, 108, 115]) h).trans (by decide)
 have n3 : (op.toList == [115, 113, 117, 101, 101, 122, 101]) = false := (lit_beq (u := [115, 113, 117, 101, 101, 122, 101]) h).trans (by decide)
 have n4 : (op.toList == [97, 100, 100]) = false := (lit_beq (u := [97, 100, 100]) h).trans (by decide)
 have n5 : (op.toList == [115, 99, 97, 108, 101]) = false := (lit_beq (u := [115, 99, 97, 108, 101]) h).trans (by decide)
 have n6 : (op.toList == [112, 111, 115, 116, 101, 114, 105, 122, 101]) = false := (lit_beq (u := [112, 111, 115, 116, 101, 114, 105, 122, 101]) h).trans (by decide)
 have n7 : (op.toList == [103, 97, 109, 109, 97]) = false := (lit_beq (u := [103, 97, 109, 109, 97]) h).trans (by decide)
 have n8 : (op.toList == [115, 119, 97, 112]) = false := (lit_beq (u := [115, 119, 97, 112]) h).trans (by decide)
 have n9 : (op.toList == [99, 104, 97, 110, 110, 101, 108]) = false := (lit_beq (u := [99, 104, 97, 110, 110, 101, 108]) h).trans (by decide)
 have n10 : (op.toList == [116, 105, 110, 116]) = false := (lit_beq (u := [116, 105, 110, 116]) h).trans (by decide)
 have n11 : (op.toList == [97, 108, 112, 104, 97]) = true := (lit_beq (u := [97, 108, 112, 104, 97]) h).trans (by decide)
 have n12 : (op.toList == [102, 108, 97, 116, 116, 101, 110]) = false := (lit_beq (u := [102, 108, 97, 116, 116, 101, 110]) h).trans (by decide)
 have n13 : (op.toList == [107, 101, 121]) = false := (lit_beq (u := [107, 101, 121]) h).trans (by decide)
 have n14 : (op.toList == [99, 104, 101, 99, 107, 101, 114]) = false := (lit_beq (u := [99, 104, 101, 99, 107, 101, 114]) h).trans (by decide)
 have H := Lib.hid (Ard.SI.lit w [0, 256] 3 (by decide))
 clear h
 go_enter Tryz.func108, Tryz.ntmps108
 go_wp2
 go_ret
 exact ⟨_, _, rfl, H.out, (Below.refl _ w).alloc (Nat.le_refl _) _⟩
theorem rb20_16 {op : ByteArray} (w : World) (h : op = ba [102, 108, 97, 116, 116, 101, 110]) : Calls Tryz.prog 108 #[.string op] w (Ard.SeeI w [0, 65535, 0, 65535, 0, 65535]) := by
 have n0 : (op.toList == [116, 104, 114, 101, 115, 104, 111, 108, 100]) = false := (lit_beq (u := [116, 104, 114, 101, 115, 104, 111, 108, 100]) h).trans (by decide)
 have n1 : (op.toList == [115, 111, 108, 97, 114, 105, 122, 101]) = false := (lit_beq (u := [115, 111, 108, 97, 114, 105, 122, 101]) h).trans (by decide)
 have n2 : (op.toList == [108, 101, 118, 101, 108, 115]) = false := (lit_beq (u := [108, 101, 118, 101, 108, 115]) h).trans (by decide)
 have n3 : (op.toList == [115, 113, 117, 101, 101, 122, 101]) = false := (lit_beq (u := [115, 113, 117, 101, 101, 122, 101]) h).trans (by decide)
 have n4 : (op.toList == [97, 100, 100]) = false := (lit_beq (u := [97, 100, 100]) h).trans (by decide)
 have n5 : (op.toList == [115, 99, 97, 108, 101]) = false := (lit_beq (u := [115, 99, 97, 108, 101]) h).trans (by decide)
 have n6 : (op.toList == [112, 111, 115, 116, 101, 114, 105, 122, 101]) = false := (lit_beq (u := [112, 111, 115, 116, 101, 114, 105, 122, 101]) h).trans (by decide)
 have n7 : (op.toList == [103, 97, 109, 109, 97]) = false := (lit_beq (u := [103, 97, 109, 109, 97]) h).trans (by decide)
 have n8 : (op.toList == [115, 119, 97, 112]) = false := (lit_beq (u := [115, 119, 97, 112]) h).trans (by decide)
 have n9 : (op.toList == [99, 104, 97, 110, 110, 101, 108]) = false := (lit_beq (u := [99, 104, 97, 110, 110, 101, 108]) h).trans (by decide)
 have n10 : (op.toList == [116, 105, 110, 116]) = false := (lit_beq (u := [116, 105, 110, 116]) h).trans (by decide)
 have n11 : (op.toList == [97, 108, 112, 104, 97]) = false := (lit_beq (u := [97, 108, 112, 104, 97]) h).trans (by decide)
 have n12 : (op.toList == [102, 108, 97, 116, 116, 101, 110]) = true := (lit_beq (u := [102, 108, 97, 116, 116, 101, 110]) h).trans (by decide)
 have n13 : (op.toList == [107, 101, 121]) = false := (lit_beq (u := [107, 101, 121]) h).trans (by decide)
 have n14 : (op.toList == [99, 104, 101, 99, 107, 101, 114]) = false := (lit_beq (u := [99, 104, 101, 99, 107, 101, 114]) h).trans (by decide)
 have H := Lib.hid (Ard.SI.lit w [0, 65535, 0, 65535, 0, 65535] 3 (by decide))
 clear h
 go_enter Tryz.func108, Tryz.ntmps108
 go_wp2
 go_ret
 exact ⟨_, _, rfl, H.out, (Below.refl _ w).alloc (Nat.le_refl _) _⟩
theorem rb20_17 {op : ByteArray} (w : World) (h : op = ba [107, 101, 121]) : Calls Tryz.prog 108 #[.string op] w (Ard.SeeI w [0, 65535, 0, 65535, 0, 65535, 0, 65535]) := by
 have n0 : (op.toList == [116, 104, 114, 101, 115, 104, 111, 108, 100]) = false := (lit_beq (u := [116, 104, 114, 101, 115, 104, 111, 108, 100]) h).trans (by decide)
 have n1 : (op.toList == [115, 111, 108, 97, 114, 105, 122, 101]) = false := (lit_beq (u := [115, 111, 108, 97, 114, 105, 122, 101]) h).trans (by decide)
 have n2 : (op.toList == [108, 101, 118, 101, 108, 115]) = false := (lit_beq (u := [108, 101, 118, 101, 108, 115]) h).trans (by decide)
 have n3 : (op.toList == [115, 113, 117, 101, 101, 122, 101]) = false := (lit_beq (u := [115, 113, 117, 101, 101, 122, 101]) h).trans (by decide)
 have n4 : (op.toList == [97, 100, 100]) = false := (lit_beq (u := [97, 100, 100]) h).trans (by decide)
 have n5 : (op.toList == [115, 99, 97, 108, 101]) = false := (lit_beq (u := [115, 99, 97, 108, 101]) h).trans (by decide)
 have n6 : (op.toList == [112, 111, 115, 116, 101, 114, 105, 122, 101]) = false := (lit_beq (u := [112, 111, 115, 116, 101, 114, 105, 122, 101]) h).trans (by decide)
 have n7 : (op.toList == [103, 97, 109, 109, 97]) = false := (lit_beq (u := [103, 97, 109, 109, 97]) h).trans (by decide)
 have n8 : (op.toList == [115, 119, 97, 112]) = false := (lit_beq (u := [115, 119, 97, 112]) h).trans (by decide)
 have n9 : (op.toList == [99, 104, 97, 110, 110, 101, 108]) = false := (lit_beq (u := [99, 104, 97, 110, 110, 101, 108]) h).trans (by decide)
 have n10 : (op.toList == [116, 105, 110, 116]) = false := (lit_beq (u := [116, 105, 110, 116]) h).trans (by decide)
 have n11 : (op.toList == [97, 108, 112, 104, 97]) = false := (lit_beq (u := [97, 108, 112, 104, 97]) h).trans (by decide)
 have n12 : (op.toList == [102, 108, 97, 116, 116, 101, 110]) = false := (lit_beq (u := [102, 108, 97, 116, 116, 101, 110]) h).trans (by decide)
 have n13 : (op.toList == [107, 101, 121]) = true := (lit_beq (u := [107, 101, 121]) h).trans (by decide)
 have n14 : (op.toList == [99, 104, 101, 99, 107, 101, 114]) = false := (lit_beq (u := [99, 104, 101, 99, 107, 101, 114]) h).trans (by decide)
 have H := Lib.hid (Ard.SI.lit w [0, 65535, 0, 65535, 0, 65535, 0, 65535] 3 (by decide))
 clear h
 go_enter Tryz.func108, Tryz.ntmps108
 go_wp2
 go_ret
 exact ⟨_, _, rfl, H.out, (Below.refl _ w).alloc (Nat.le_refl _) _⟩
theorem rb20_18 {op : ByteArray} (w : World) (h : op = ba [99, 104, 101, 99, 107, 101, 114]) : Calls Tryz.prog 108 #[.string op] w (Ard.SeeI w [1, 4096]) := by
 have n0 : (op.toList == [116, 104, 114, 101, 115, 104, 111, 108, 100]) = false := (lit_beq (u := [116, 104, 114, 101, 115, 104, 111, 108, 100]) h).trans (by decide)
 have n1 : (op.toList == [115, 111, 108, 97, 114, 105, 122, 101]) = false := (lit_beq (u := [115, 111, 108, 97, 114, 105, 122, 101]) h).trans (by decide)
 have n2 : (op.toList == [108, 101, 118, 101, 108, 115]) = false := (lit_beq (u := [108, 101, 118, 101, 108, 115]) h).trans (by decide)
 have n3 : (op.toList == [115, 113, 117, 101, 101, 122, 101]) = false := (lit_beq (u := [115, 113, 117, 101, 101, 122, 101]) h).trans (by decide)
 have n4 : (op.toList == [97, 100, 100]) = false := (lit_beq (u := [97, 100, 100]) h).trans (by decide)
 have n5 : (op.toList == [115, 99, 97, 108, 101]) = false := (lit_beq (u := [115, 99, 97, 108, 101]) h).trans (by decide)
 have n6 : (op.toList == [112, 111, 115, 116, 101, 114, 105, 122, 101]) = false := (lit_beq (u := [112, 111, 115, 116, 101, 114, 105, 122, 101]) h).trans (by decide)
 have n7 : (op.toList == [103, 97, 109, 109, 97]) = false := (lit_beq (u := [103, 97, 109, 109, 97]) h).trans (by decide)
 have n8 : (op.toList == [115, 119, 97, 112]) = false := (lit_beq (u := [115, 119, 97, 112]) h).trans (by decide)
 have n9 : (op.toList == [99, 104, 97, 110, 110, 101, 108]) = false := (lit_beq (u := [99, 104, 97, 110, 110, 101, 108]) h).trans (by decide)
 have n10 : (op.toList == [116, 105, 110, 116]) = false := (lit_beq (u := [116, 105, 110, 116]) h).trans (by decide)
 have n11 : (op.toList == [97, 108, 112, 104, 97]) = false := (lit_beq (u := [97, 108, 112, 104, 97]) h).trans (by decide)
 have n12 : (op.toList == [102, 108, 97, 116, 116, 101, 110]) = false := (lit_beq (u := [102, 108, 97, 116, 116, 101, 110]) h).trans (by decide)
 have n13 : (op.toList == [107, 101, 121]) = false := (lit_beq (u := [107, 101, 121]) h).trans (by decide)
 have n14 : (op.toList == [99, 104, 101, 99, 107, 101, 114]) = true := (lit_beq (u := [99, 104, 101, 99, 107, 101, 114]) h).trans (by decide)
 have H := Lib.hid (Ard.SI.lit w [1, 4096] 3 (by decide))
 clear h
 go_enter Tryz.func108, Tryz.ntmps108
 go_wp2
 go_ret
 exact ⟨_, _, rfl, H.out, (Below.refl _ w).alloc (Nat.le_refl _) _⟩
theorem rb20_19 {op : ByteArray} (w : World) (h : op = ba [102, 97, 100, 101]) : Calls Tryz.prog 108 #[.string op] w (Ard.SeeI w []) := by
 have n0 : (op.toList == [116, 104, 114, 101, 115, 104, 111, 108, 100]) = false := (lit_beq (u := [116, 104, 114, 101, 115, 104, 111, 108, 100]) h).trans (by decide)
 have n1 : (op.toList == [115, 111, 108, 97, 114, 105, 122, 101]) = false := (lit_beq (u := [115, 111, 108, 97, 114, 105, 122, 101]) h).trans (by decide)
 have n2 : (op.toList == [108, 101, 118, 101, 108, 115]) = false := (lit_beq (u := [108, 101, 118, 101, 108, 115]) h).trans (by decide)
 have n3 : (op.toList == [115, 113, 117, 101, 101, 122, 101]) = false := (lit_beq (u := [115, 113, 117, 101, 101, 122, 101]) h).trans (by decide)
 have n4 : (op.toList == [97, 100, 100]) = false := (lit_beq (u := [97, 100, 100]) h).trans (by decide)
 have n5 : (op.toList == [115, 99, 97, 108, 101]) = false := (lit_beq (u := [115, 99, 97, 108, 101]) h).trans (by decide)
 have n6 : (op.toList == [112, 111, 115, 116, 101, 114, 105, 122, 101]) = false := (lit_beq (u := [112, 111, 115, 116, 101, 114, 105, 122, 101]) h).trans (by decide)
 have n7 : (op.toList == [103, 97, 109, 109, 97]) = false := (lit_beq (u := [103, 97, 109, 109, 97]) h).trans (by decide)
 have n8 : (op.toList == [115, 119, 97, 112]) = false := (lit_beq (u := [115, 119, 97, 112]) h).trans (by decide)
 have n9 : (op.toList == [99, 104, 97, 110, 110, 101, 108]) = false := (lit_beq (u := [99, 104, 97, 110, 110, 101, 108]) h).trans (by decide)
 have n10 : (op.toList == [116, 105, 110, 116]) = false := (lit_beq (u := [116, 105, 110, 116]) h).trans (by decide)
 have n11 : (op.toList == [97, 108, 112, 104, 97]) = false := (lit_beq (u := [97, 108, 112, 104, 97]) h).trans (by decide)
 have n12 : (op.toList == [102, 108, 97, 116, 116, 101, 110]) = false := (lit_beq (u := [102, 108, 97, 116, 116, 101, 110]) h).trans (by decide)
 have n13 : (op.toList == [107, 101, 121]) = false := (lit_beq (u := [107, 101, 121]) h).trans (by decide)
 have n14 : (op.toList == [99, 104, 101, 99, 107, 101, 114]) = false := (lit_beq (u := [99, 104, 101, 99, 107, 101, 114]) h).trans (by decide)
 clear h
 go_enter Tryz.func108, Tryz.ntmps108
 go_wp2
 go_ret
 exact ⟨none, 0, rfl, SI.nil _ _ _, Below.refl _ _⟩
theorem rb21_0 {op : ByteArray} (w : World) (h : op = ba [99, 114, 111, 112]) : Calls Tryz.prog 109 #[.string op] w (Ard.SeeI w [0, 4095, 0, 4095, 1, 4096, 1, 4096]) := by
 have n0 : (op.toList == [99, 114, 111, 112]) = true := (lit_beq (u := [99, 114, 111, 112]) h).trans (by decide)
 have n1 : (op.toList == [114, 111, 116, 97, 116, 101]) = false := (lit_beq (u := [114, 111, 116, 97, 116, 101]) h).trans (by decide)
 have n2 : (op.toList == [114, 111, 108, 108]) = false := (lit_beq (u := [114, 111, 108, 108]) h).trans (by decide)
 have n3 : (op.toList == [114, 101, 115, 105, 122, 101]) = false := (lit_beq (u := [114, 101, 115, 105, 122, 101]) h).trans (by decide)
 have n4 : (op.toList == [122, 111, 111, 109]) = false := (lit_beq (u := [122, 111, 111, 109]) h).trans (by decide)
 have n5 : (op.toList == [115, 104, 114, 105, 110, 107]) = false := (lit_beq (u := [115, 104, 114, 105, 110, 107]) h).trans (by decide)
 have n6 : (op.toList == [116, 105, 108, 101]) = false := (lit_beq (u := [116, 105, 108, 101]) h).trans (by decide)
 have n7 : (op.toList == [101, 120, 116, 101, 110, 100]) = false := (lit_beq (u := [101, 120, 116, 101, 110, 100]) h).trans (by decide)
 have n8 : (op.toList == [102, 114, 97, 109, 101]) = false := (lit_beq (u := [102, 114, 97, 109, 101]) h).trans (by decide)
 have H := Lib.hid (Ard.SI.lit w [0, 4095, 0, 4095, 1, 4096, 1, 4096] 3 (by decide))
 clear h
 go_enter Tryz.func109, Tryz.ntmps109
 go_wp2
 go_ret
 exact ⟨_, _, rfl, H.out, (Below.refl _ w).alloc (Nat.le_refl _) _⟩
theorem rb21_1 {op : ByteArray} (w : World) (h : op = ba [102, 108, 105, 112]) : Calls Tryz.prog 109 #[.string op] w (Ard.SeeI w []) := by
 have n0 : (op.toList == [99, 114, 111, 112]) = false := (lit_beq (u := [99, 114, 111, 112]) h).trans (by decide)
 have n1 : (op.toList == [114, 111, 116, 97, 116, 101]) = false := (lit_beq (u := [114, 111, 116, 97, 116, 101]) h).trans (by decide)
 have n2 : (op.toList == [114, 111, 108, 108]) = false := (lit_beq (u := [114, 111, 108, 108]) h).trans (by decide)
 have n3 : (op.toList == [114, 101, 115, 105, 122, 101]) = false := (lit_beq (u := [114, 101, 115, 105, 122, 101]) h).trans (by decide)
 have n4 : (op.toList == [122, 111, 111, 109]) = false := (lit_beq (u := [122, 111, 111, 109]) h).trans (by decide)
 have n5 : (op.toList == [115, 104, 114, 105, 110, 107]) = false := (lit_beq (u := [115, 104, 114, 105, 110, 107]) h).trans (by decide)
 have n6 : (op.toList == [116, 105, 108, 101]) = false := (lit_beq (u := [116, 105, 108, 101]) h).trans (by decide)
 have n7 : (op.toList == [101, 120, 116, 101, 110, 100]) = false := (lit_beq (u := [101, 120, 116, 101, 110, 100]) h).trans (by decide)
 have n8 : (op.toList == [102, 114, 97, 109, 101]) = false := (lit_beq (u := [102, 114, 97, 109, 101]) h).trans (by decide)
 clear h
 go_enter Tryz.func109, Tryz.ntmps109
 go_wp2
 go_ret
 exact ⟨none, 0, rfl, SI.nil _ _ _, Below.refl _ _⟩
theorem rb21_2 {op : ByteArray} (w : World) (h : op = ba [102, 108, 111, 112]) : Calls Tryz.prog 109 #[.string op] w (Ard.SeeI w []) := by
 have n0 : (op.toList == [99, 114, 111, 112]) = false := (lit_beq (u := [99, 114, 111, 112]) h).trans (by decide)
 have n1 : (op.toList == [114, 111, 116, 97, 116, 101]) = false := (lit_beq (u := [114, 111, 116, 97, 116, 101]) h).trans (by decide)
 have n2 : (op.toList == [114, 111, 108, 108]) = false := (lit_beq (u := [114, 111, 108, 108]) h).trans (by decide)
 have n3 : (op.toList == [114, 101, 115, 105, 122, 101]) = false := (lit_beq (u := [114, 101, 115, 105, 122, 101]) h).trans (by decide)
 have n4 : (op.toList == [122, 111, 111, 109]) = false := (lit_beq (u := [122, 111, 111, 109]) h).trans (by decide)
 have n5 : (op.toList == [115, 104, 114, 105, 110, 107]) = false := (lit_beq (u := [115, 104, 114, 105, 110, 107]) h).trans (by decide)
 have n6 : (op.toList == [116, 105, 108, 101]) = false := (lit_beq (u := [116, 105, 108, 101]) h).trans (by decide)
 have n7 : (op.toList == [101, 120, 116, 101, 110, 100]) = false := (lit_beq (u := [101, 120, 116, 101, 110, 100]) h).trans (by decide)
 have n8 : (op.toList == [102, 114, 97, 109, 101]) = false := (lit_beq (u := [102, 114, 97, 109, 101]) h).trans (by decide)
 clear h
 go_enter Tryz.func109, Tryz.ntmps109
 go_wp2
 go_ret
 exact ⟨none, 0, rfl, SI.nil _ _ _, Below.refl _ _⟩
theorem rb21_3 {op : ByteArray} (w : World) (h : op = ba [114, 111, 116, 97, 116, 101]) : Calls Tryz.prog 109 #[.string op] w (Ard.SeeI w [1, 3]) := by
 have n0 : (op.toList == [99, 114, 111, 112]) = false := (lit_beq (u := [99, 114, 111, 112]) h).trans (by decide)
 have n1 : (op.toList == [114, 111, 116, 97, 116, 101]) = true := (lit_beq (u := [114, 111, 116, 97, 116, 101]) h).trans (by decide)
 have n2 : (op.toList == [114, 111, 108, 108]) = false := (lit_beq (u := [114, 111, 108, 108]) h).trans (by decide)
 have n3 : (op.toList == [114, 101, 115, 105, 122, 101]) = false := (lit_beq (u := [114, 101, 115, 105, 122, 101]) h).trans (by decide)
 have n4 : (op.toList == [122, 111, 111, 109]) = false := (lit_beq (u := [122, 111, 111, 109]) h).trans (by decide)
 have n5 : (op.toList == [115, 104, 114, 105, 110, 107]) = false := (lit_beq (u := [115, 104, 114, 105, 110, 107]) h).trans (by decide)
 have n6 : (op.toList == [116, 105, 108, 101]) = false := (lit_beq (u := [116, 105, 108, 101]) h).trans (by decide)
 have n7 : (op.toList == [101, 120, 116, 101, 110, 100]) = false := (lit_beq (u := [101, 120, 116, 101, 110, 100]) h).trans (by decide)
 have n8 : (op.toList == [102, 114, 97, 109, 101]) = false := (lit_beq (u := [102, 114, 97, 109, 101]) h).trans (by decide)
 have H := Lib.hid (Ard.SI.lit w [1, 3] 3 (by decide))
 clear h
 go_enter Tryz.func109, Tryz.ntmps109
 go_wp2
 go_ret
 exact ⟨_, _, rfl, H.out, (Below.refl _ w).alloc (Nat.le_refl _) _⟩
theorem rb21_4 {op : ByteArray} (w : World) (h : op = ba [116, 114, 97, 110, 115, 112, 111, 115, 101]) : Calls Tryz.prog 109 #[.string op] w (Ard.SeeI w []) := by
 have n0 : (op.toList == [99, 114, 111, 112]) = false := (lit_beq (u := [99, 114, 111, 112]) h).trans (by decide)
 have n1 : (op.toList == [114, 111, 116, 97, 116, 101]) = false := (lit_beq (u := [114, 111, 116, 97, 116, 101]) h).trans (by decide)
 have n2 : (op.toList == [114, 111, 108, 108]) = false := (lit_beq (u := [114, 111, 108, 108]) h).trans (by decide)
 have n3 : (op.toList == [114, 101, 115, 105, 122, 101]) = false := (lit_beq (u := [114, 101, 115, 105, 122, 101]) h).trans (by decide)
 have n4 : (op.toList == [122, 111, 111, 109]) = false := (lit_beq (u := [122, 111, 111, 109]) h).trans (by decide)
 have n5 : (op.toList == [115, 104, 114, 105, 110, 107]) = false := (lit_beq (u := [115, 104, 114, 105, 110, 107]) h).trans (by decide)
 have n6 : (op.toList == [116, 105, 108, 101]) = false := (lit_beq (u := [116, 105, 108, 101]) h).trans (by decide)
 have n7 : (op.toList == [101, 120, 116, 101, 110, 100]) = false := (lit_beq (u := [101, 120, 116, 101, 110, 100]) h).trans (by decide)
 have n8 : (op.toList == [102, 114, 97, 109, 101]) = false := (lit_beq (u := [102, 114, 97, 109, 101]) h).trans (by decide)
 clear h
 go_enter Tryz.func109, Tryz.ntmps109
 go_wp2
 go_ret
 exact ⟨none, 0, rfl, SI.nil _ _ _, Below.refl _ _⟩
theorem rb21_5 {op : ByteArray} (w : World) (h : op = ba [116, 114, 97, 110, 115, 118, 101, 114, 115, 101]) : Calls Tryz.prog 109 #[.string op] w (Ard.SeeI w []) := by
 have n0 : (op.toList == [99, 114, 111, 112]) = false := (lit_beq (u := [99, 114, 111, 112]) h).trans (by decide)
 have n1 : (op.toList == [114, 111, 116, 97, 116, 101]) = false := (lit_beq (u := [114, 111, 116, 97, 116, 101]) h).trans (by decide)
 have n2 : (op.toList == [114, 111, 108, 108]) = false := (lit_beq (u := [114, 111, 108, 108]) h).trans (by decide)
 have n3 : (op.toList == [114, 101, 115, 105, 122, 101]) = false := (lit_beq (u := [114, 101, 115, 105, 122, 101]) h).trans (by decide)
 have n4 : (op.toList == [122, 111, 111, 109]) = false := (lit_beq (u := [122, 111, 111, 109]) h).trans (by decide)
 have n5 : (op.toList == [115, 104, 114, 105, 110, 107]) = false := (lit_beq (u := [115, 104, 114, 105, 110, 107]) h).trans (by decide)
 have n6 : (op.toList == [116, 105, 108, 101]) = false := (lit_beq (u := [116, 105, 108, 101]) h).trans (by decide)
 have n7 : (op.toList == [101, 120, 116, 101, 110, 100]) = false := (lit_beq (u := [101, 120, 116, 101, 110, 100]) h).trans (by decide)
 have n8 : (op.toList == [102, 114, 97, 109, 101]) = false := (lit_beq (u := [102, 114, 97, 109, 101]) h).trans (by decide)
 clear h
 go_enter Tryz.func109, Tryz.ntmps109
 go_wp2
 go_ret
 exact ⟨none, 0, rfl, SI.nil _ _ _, Below.refl _ _⟩
theorem rb21_6 {op : ByteArray} (w : World) (h : op = ba [114, 111, 108, 108]) : Calls Tryz.prog 109 #[.string op] w (Ard.SeeI w [-4096, 4096, -4096, 4096]) := by
 have n0 : (op.toList == [99, 114, 111, 112]) = false := (lit_beq (u := [99, 114, 111, 112]) h).trans (by decide)
 have n1 : (op.toList == [114, 111, 116, 97, 116, 101]) = false := (lit_beq (u := [114, 111, 116, 97, 116, 101]) h).trans (by decide)
 have n2 : (op.toList == [114, 111, 108, 108]) = true := (lit_beq (u := [114, 111, 108, 108]) h).trans (by decide)
 have n3 : (op.toList == [114, 101, 115, 105, 122, 101]) = false := (lit_beq (u := [114, 101, 115, 105, 122, 101]) h).trans (by decide)
 have n4 : (op.toList == [122, 111, 111, 109]) = false := (lit_beq (u := [122, 111, 111, 109]) h).trans (by decide)
 have n5 : (op.toList == [115, 104, 114, 105, 110, 107]) = false := (lit_beq (u := [115, 104, 114, 105, 110, 107]) h).trans (by decide)
 have n6 : (op.toList == [116, 105, 108, 101]) = false := (lit_beq (u := [116, 105, 108, 101]) h).trans (by decide)
 have n7 : (op.toList == [101, 120, 116, 101, 110, 100]) = false := (lit_beq (u := [101, 120, 116, 101, 110, 100]) h).trans (by decide)
 have n8 : (op.toList == [102, 114, 97, 109, 101]) = false := (lit_beq (u := [102, 114, 97, 109, 101]) h).trans (by decide)
 have H := Lib.hid (Ard.SI.lit w [-4096, 4096, -4096, 4096] 3 (by decide))
 clear h
 go_enter Tryz.func109, Tryz.ntmps109
 go_wp2
 go_ret
 exact ⟨_, _, rfl, H.out, (Below.refl _ w).alloc (Nat.le_refl _) _⟩
theorem rb21_7 {op : ByteArray} (w : World) (h : op = ba [114, 101, 115, 105, 122, 101]) : Calls Tryz.prog 109 #[.string op] w (Ard.SeeI w [1, 4096, 1, 4096]) := by
 have n0 : (op.toList == [99, 114, 111, 112]) = false := (lit_beq (u := [99, 114, 111, 112]) h).trans (by decide)
 have n1 : (op.toList == [114, 111, 116, 97, 116, 101]) = false := (lit_beq (u := [114, 111, 116, 97, 116, 101]) h).trans (by decide)
 have n2 : (op.toList == [114, 111, 108, 108]) = false := (lit_beq (u := [114, 111, 108, 108]) h).trans (by decide)
 have n3 : (op.toList == [114, 101, 115, 105, 122, 101]) = true := (lit_beq (u := [114, 101, 115, 105, 122, 101]) h).trans (by decide)
 have n4 : (op.toList == [122, 111, 111, 109]) = false := (lit_beq (u := [122, 111, 111, 109]) h).trans (by decide)
 have n5 : (op.toList == [115, 104, 114, 105, 110, 107]) = false := (lit_beq (u := [115, 104, 114, 105, 110, 107]) h).trans (by decide)
 have n6 : (op.toList == [116, 105, 108, 101]) = false := (lit_beq (u := [116, 105, 108, 101]) h).trans (by decide)
 have n7 : (op.toList == [101, 120, 116, 101, 110, 100]) = false := (lit_beq (u := [101, 120, 116, 101, 110, 100]) h).trans (by decide)
 have n8 : (op.toList == [102, 114, 97, 109, 101]) = false := (lit_beq (u := [102, 114, 97, 109, 101]) h).trans (by decide)
 have H := Lib.hid (Ard.SI.lit w [1, 4096, 1, 4096] 3 (by decide))
 clear h
 go_enter Tryz.func109, Tryz.ntmps109
 go_wp2
 go_ret
 exact ⟨_, _, rfl, H.out, (Below.refl _ w).alloc (Nat.le_refl _) _⟩
theorem rb21_8 {op : ByteArray} (w : World) (h : op = ba [122, 111, 111, 109]) : Calls Tryz.prog 109 #[.string op] w (Ard.SeeI w [1, 64]) := by
 have n0 : (op.toList == [99, 114, 111, 112]) = false := (lit_beq (u := [99, 114, 111, 112]) h).trans (by decide)
 have n1 : (op.toList == [114, 111, 116, 97, 116, 101]) = false := (lit_beq (u := [114, 111, 116, 97, 116, 101]) h).trans (by decide)
 have n2 : (op.toList == [114, 111, 108, 108]) = false := (lit_beq (u := [114, 111, 108, 108]) h).trans (by decide)
 have n3 : (op.toList == [114, 101, 115, 105, 122, 101]) = false := (lit_beq (u := [114, 101, 115, 105, 122, 101]) h).trans (by decide)
 have n4 : (op.toList == [122, 111, 111, 109]) = true := (lit_beq (u := [122, 111, 111, 109]) h).trans (by decide)
 have n5 : (op.toList == [115, 104, 114, 105, 110, 107]) = false := (lit_beq (u := [115, 104, 114, 105, 110, 107]) h).trans (by decide)
 have n6 : (op.toList == [116, 105, 108, 101]) = false := (lit_beq (u := [116, 105, 108, 101]) h).trans (by decide)
 have n7 : (op.toList == [101, 120, 116, 101, 110, 100]) = false := (lit_beq (u := [101, 120, 116, 101, 110, 100]) h).trans (by decide)
 have n8 : (op.toList == [102, 114, 97, 109, 101]) = false := (lit_beq (u := [102, 114, 97, 109, 101]) h).trans (by decide)
 have H := Lib.hid (Ard.SI.lit w [1, 64] 3 (by decide))
 clear h
 go_enter Tryz.func109, Tryz.ntmps109
 go_wp2
 go_ret
 exact ⟨_, _, rfl, H.out, (Below.refl _ w).alloc (Nat.le_refl _) _⟩
theorem rb21_9 {op : ByteArray} (w : World) (h : op = ba [116, 105, 108, 101]) : Calls Tryz.prog 109 #[.string op] w (Ard.SeeI w [1, 64, 1, 64]) := by
 have n0 : (op.toList == [99, 114, 111, 112]) = false := (lit_beq (u := [99, 114, 111, 112]) h).trans (by decide)
 have n1 : (op.toList == [114, 111, 116, 97, 116, 101]) = false := (lit_beq (u := [114, 111, 116, 97, 116, 101]) h).trans (by decide)
 have n2 : (op.toList == [114, 111, 108, 108]) = false := (lit_beq (u := [114, 111, 108, 108]) h).trans (by decide)
 have n3 : (op.toList == [114, 101, 115, 105, 122, 101]) = false := (lit_beq (u := [114, 101, 115, 105, 122, 101]) h).trans (by decide)
 have n4 : (op.toList == [122, 111, 111, 109]) = false := (lit_beq (u := [122, 111, 111, 109]) h).trans (by decide)
 have n5 : (op.toList == [115, 104, 114, 105, 110, 107]) = false := (lit_beq (u := [115, 104, 114, 105, 110, 107]) h).trans (by decide)
 have n6 : (op.toList == [116, 105, 108, 101]) = true := (lit_beq (u := [116, 105, 108, 101]) h).trans (by decide)
 have n7 : (op.toList == [101, 120, 116, 101, 110, 100]) = false := (lit_beq (u := [101, 120, 116, 101, 110, 100]) h).trans (by decide)
 have n8 : (op.toList == [102, 114, 97, 109, 101]) = false := (lit_beq (u := [102, 114, 97, 109, 101]) h).trans (by decide)
 have H := Lib.hid (Ard.SI.lit w [1, 64, 1, 64] 3 (by decide))
 clear h
 go_enter Tryz.func109, Tryz.ntmps109
 go_wp2
 go_ret
 exact ⟨_, _, rfl, H.out, (Below.refl _ w).alloc (Nat.le_refl _) _⟩
theorem rb21_10 {op : ByteArray} (w : World) (h : op = ba [101, 120, 116, 101, 110, 100]) : Calls Tryz.prog 109 #[.string op] w (Ard.SeeI w [0, 4096, 0, 4096, 0, 4096, 0, 4096]) := by
 have n0 : (op.toList == [99, 114, 111, 112]) = false := (lit_beq (u := [99, 114, 111, 112]) h).trans (by decide)
 have n1 : (op.toList == [114, 111, 116, 97, 116, 101]) = false := (lit_beq (u := [114, 111, 116, 97, 116, 101]) h).trans (by decide)
 have n2 : (op.toList == [114, 111, 108, 108]) = false := (lit_beq (u := [114, 111, 108, 108]) h).trans (by decide)
 have n3 : (op.toList == [114, 101, 115, 105, 122, 101]) = false := (lit_beq (u := [114, 101, 115, 105, 122, 101]) h).trans (by decide)
 have n4 : (op.toList == [122, 111, 111, 109]) = false := (lit_beq (u := [122, 111, 111, 109]) h).trans (by decide)
 have n5 : (op.toList == [115, 104, 114, 105, 110, 107]) = false := (lit_beq (u := [115, 104, 114, 105, 110, 107]) h).trans (by decide)
 have n6 : (op.toList == [116, 105, 108, 101]) = false := (lit_beq (u := [116, 105, 108, 101]) h).trans (by decide)
 have n7 : (op.toList == [101, 120, 116, 101, 110, 100]) = true := (lit_beq (u := [101, 120, 116, 101, 110, 100]) h).trans (by decide)
 have n8 : (op.toList == [102, 114, 97, 109, 101]) = false := (lit_beq (u := [102, 114, 97, 109, 101]) h).trans (by decide)
 have H := Lib.hid (Ard.SI.lit w [0, 4096, 0, 4096, 0, 4096, 0, 4096] 3 (by decide))
 clear h
 go_enter Tryz.func109, Tryz.ntmps109
 go_wp2
 go_ret
 exact ⟨_, _, rfl, H.out, (Below.refl _ w).alloc (Nat.le_refl _) _⟩
theorem rb21_11 {op : ByteArray} (w : World) (h : op = ba [102, 114, 97, 109, 101]) : Calls Tryz.prog 109 #[.string op] w (Ard.SeeI w [1, 1024, 0, 65535, 0, 65535, 0, 65535, 0, 65535]) := by
 have n0 : (op.toList == [99, 114, 111, 112]) = false := (lit_beq (u := [99, 114, 111, 112]) h).trans (by decide)
 have n1 : (op.toList == [114, 111, 116, 97, 116, 101]) = false := (lit_beq (u := [114, 111, 116, 97, 116, 101]) h).trans (by decide)
 have n2 : (op.toList == [114, 111, 108, 108]) = false := (lit_beq (u := [114, 111, 108, 108]) h).trans (by decide)
 have n3 : (op.toList == [114, 101, 115, 105, 122, 101]) = false := (lit_beq (u := [114, 101, 115, 105, 122, 101]) h).trans (by decide)
 have n4 : (op.toList == [122, 111, 111, 109]) = false := (lit_beq (u := [122, 111, 111, 109]) h).trans (by decide)
 have n5 : (op.toList == [115, 104, 114, 105, 110, 107]) = false := (lit_beq (u := [115, 104, 114, 105, 110, 107]) h).trans (by decide)
 have n6 : (op.toList == [116, 105, 108, 101]) = false := (lit_beq (u := [116, 105, 108, 101]) h).trans (by decide)
 have n7 : (op.toList == [101, 120, 116, 101, 110, 100]) = false := (lit_beq (u := [101, 120, 116, 101, 110, 100]) h).trans (by decide)
 have n8 : (op.toList == [102, 114, 97, 109, 101]) = true := (lit_beq (u := [102, 114, 97, 109, 101]) h).trans (by decide)
 have H := Lib.hid (Ard.SI.lit w [1, 1024, 0, 65535, 0, 65535, 0, 65535, 0, 65535] 3 (by decide))
 clear h
 go_enter Tryz.func109, Tryz.ntmps109
 go_wp2
 go_ret
 exact ⟨_, _, rfl, H.out, (Below.refl _ w).alloc (Nat.le_refl _) _⟩
theorem rb21_12 {op : ByteArray} (w : World) (h : op = ba [115, 104, 114, 105, 110, 107]) : Calls Tryz.prog 109 #[.string op] w (Ard.SeeI w [1, 64]) := by
 have n0 : (op.toList == [99, 114, 111, 112]) = false := (lit_beq (u := [99, 114, 111, 112]) h).trans (by decide)
 have n1 : (op.toList == [114, 111, 116, 97, 116, 101]) = false := (lit_beq (u := [114, 111, 116, 97, 116, 101]) h).trans (by decide)
 have n2 : (op.toList == [114, 111, 108, 108]) = false := (lit_beq (u := [114, 111, 108, 108]) h).trans (by decide)
 have n3 : (op.toList == [114, 101, 115, 105, 122, 101]) = false := (lit_beq (u := [114, 101, 115, 105, 122, 101]) h).trans (by decide)
 have n4 : (op.toList == [122, 111, 111, 109]) = false := (lit_beq (u := [122, 111, 111, 109]) h).trans (by decide)
 have n5 : (op.toList == [115, 104, 114, 105, 110, 107]) = true := (lit_beq (u := [115, 104, 114, 105, 110, 107]) h).trans (by decide)
 have n6 : (op.toList == [116, 105, 108, 101]) = false := (lit_beq (u := [116, 105, 108, 101]) h).trans (by decide)
 have n7 : (op.toList == [101, 120, 116, 101, 110, 100]) = false := (lit_beq (u := [101, 120, 116, 101, 110, 100]) h).trans (by decide)
 have n8 : (op.toList == [102, 114, 97, 109, 101]) = false := (lit_beq (u := [102, 114, 97, 109, 101]) h).trans (by decide)
 have H := Lib.hid (Ard.SI.lit w [1, 64] 3 (by decide))
 clear h
 go_enter Tryz.func109, Tryz.ntmps109
 go_wp2
 go_ret
 exact ⟨_, _, rfl, H.out, (Below.refl _ w).alloc (Nat.le_refl _) _⟩
theorem rb21_13 {op : ByteArray} (w : World) (h : op = ba [116, 114, 105, 109]) : Calls Tryz.prog 109 #[.string op] w (Ard.SeeI w []) := by
 have n0 : (op.toList == [99, 114, 111, 112]) = false := (lit_beq (u := [99, 114, 111, 112]) h).trans (by decide)
 have n1 : (op.toList == [114, 111, 116, 97, 116, 101]) = false := (lit_beq (u := [114, 111, 116, 97, 116, 101]) h).trans (by decide)
 have n2 : (op.toList == [114, 111, 108, 108]) = false := (lit_beq (u := [114, 111, 108, 108]) h).trans (by decide)
 have n3 : (op.toList == [114, 101, 115, 105, 122, 101]) = false := (lit_beq (u := [114, 101, 115, 105, 122, 101]) h).trans (by decide)
 have n4 : (op.toList == [122, 111, 111, 109]) = false := (lit_beq (u := [122, 111, 111, 109]) h).trans (by decide)
 have n5 : (op.toList == [115, 104, 114, 105, 110, 107]) = false := (lit_beq (u := [115, 104, 114, 105, 110, 107]) h).trans (by decide)
 have n6 : (op.toList == [116, 105, 108, 101]) = false := (lit_beq (u := [116, 105, 108, 101]) h).trans (by decide)
 have n7 : (op.toList == [101, 120, 116, 101, 110, 100]) = false := (lit_beq (u := [101, 120, 116, 101, 110, 100]) h).trans (by decide)
 have n8 : (op.toList == [102, 114, 97, 109, 101]) = false := (lit_beq (u := [102, 114, 97, 109, 101]) h).trans (by decide)
 clear h
 go_enter Tryz.func109, Tryz.ntmps109
 go_wp2
 go_ret
 exact ⟨none, 0, rfl, SI.nil _ _ _, Below.refl _ _⟩
theorem findM_at : ∀ {t : List (Tx × List (Int × Int))} {op : Tx} {b : List (Int × Int)}, findM t op = some b → ∃ i, i < t.length ∧ t[i]? = some (op, b)
 | [], op, b, h => by cases h
 | p :: r, op, b, h => by
  unfold findM at h
  rw [List.find?_cons] at h
  by_cases he : p.1 == op
  ·rw [he] at h
   simp at h
   have := beq_iff_eq.1 he
   exact ⟨0, by simp, by rw [← this, ← h]; rfl⟩
  ·rw [show (p.1 == op) = false by simpa using he] at h
   obtain ⟨i, hi, hp⟩ := findM_at (t := r) (op := op) (b := b) h
   exact ⟨i + 1, by simp; omega, by simpa using hp⟩
theorem findM_in {t : List (Tx × List (Int × Int))} {op : Tx} : (findM t op).isSome = (t.map (·.1)).contains op := by
 unfold findM
 rw [Option.isSome_map, Bool.eq_iff_iff, List.find?_isSome, List.contains_iff_mem, List.mem_map]
 constructor
 ·rintro ⟨x, hx, he⟩
  exact ⟨x, hx, beq_iff_eq.1 he⟩
 ·rintro ⟨x, hx, he⟩
  exact ⟨x, hx, beq_iff_eq.2 he⟩
theorem rb20_any {op : ByteArray} {b : List (Int × Int)} (w : World) (h : findM pts op.data.toList = some b) : Calls Tryz.prog 108 #[.string op] w (Ard.SeeI w (Ard.flatP b)) := by
 obtain ⟨i, hi, hp⟩ := findM_at h
 have hop : op = ba op.data.toList := (ba_of op).symm
 generalize op.data.toList = t at hp hop
 clear h
 match i, hi, hp with
 | 0, _, hp => injection hp with hp; injection hp with e1 e2; rw [← e1] at hop; rw [← e2]; exact rb20_0 w hop
 | 1, _, hp => injection hp with hp; injection hp with e1 e2; rw [← e1] at hop; rw [← e2]; exact rb20_1 w hop
 | 2, _, hp => injection hp with hp; injection hp with e1 e2; rw [← e1] at hop; rw [← e2]; exact rb20_2 w hop
 | 3, _, hp => injection hp with hp; injection hp with e1 e2; rw [← e1] at hop; rw [← e2]; exact rb20_3 w hop
 | 4, _, hp => injection hp with hp; injection hp with e1 e2; rw [← e1] at hop; rw [← e2]; exact rb20_4 w hop
 | 5, _, hp => injection hp with hp; injection hp with e1 e2; rw [← e1] at hop; rw [← e2]; exact rb20_5 w hop
 | 6, _, hp => injection hp with hp; injection hp with e1 e2; rw [← e1] at hop; rw [← e2]; exact rb20_6 w hop
 | 7, _, hp => injection hp with hp; injection hp with e1 e2; rw [← e1] at hop; rw [← e2]; exact rb20_7 w hop
 | 8, _, hp => injection hp with hp; injection hp with e1 e2; rw [← e1] at hop; rw [← e2]; exact rb20_8 w hop
 | 9, _, hp => injection hp with hp; injection hp with e1 e2; rw [← e1] at hop; rw [← e2]; exact rb20_9 w hop
 | 10, _, hp => injection hp with hp; injection hp with e1 e2; rw [← e1] at hop; rw [← e2]; exact rb20_10 w hop
 | 11, _, hp => injection hp with hp; injection hp with e1 e2; rw [← e1] at hop; rw [← e2]; exact rb20_11 w hop
 | 12, _, hp => injection hp with hp; injection hp with e1 e2; rw [← e1] at hop; rw [← e2]; exact rb20_12 w hop
 | 13, _, hp => injection hp with hp; injection hp with e1 e2; rw [← e1] at hop; rw [← e2]; exact rb20_13 w hop
 | 14, _, hp => injection hp with hp; injection hp with e1 e2; rw [← e1] at hop; rw [← e2]; exact rb20_14 w hop
 | 15, _, hp => injection hp with hp; injection hp with e1 e2; rw [← e1] at hop; rw [← e2]; exact rb20_15 w hop
 | 16, _, hp => injection hp with hp; injection hp with e1 e2; rw [← e1] at hop; rw [← e2]; exact rb20_16 w hop
 | 17, _, hp => injection hp with hp; injection hp with e1 e2; rw [← e1] at hop; rw [← e2]; exact rb20_17 w hop
 | 18, _, hp => injection hp with hp; injection hp with e1 e2; rw [← e1] at hop; rw [← e2]; exact rb20_18 w hop
 | 19, _, hp => injection hp with hp; injection hp with e1 e2; rw [← e1] at hop; rw [← e2]; exact rb20_19 w hop
 | i + 20, hi, _ => exact absurd hi (by show ¬ i + 20 < 20; omega)
theorem rb21_any {op : ByteArray} {b : List (Int × Int)} (w : World) (h : findM mvs op.data.toList = some b) : Calls Tryz.prog 109 #[.string op] w (Ard.SeeI w (Ard.flatP b)) := by
 obtain ⟨i, hi, hp⟩ := findM_at h
 have hop : op = ba op.data.toList := (ba_of op).symm
 generalize op.data.toList = t at hp hop
 clear h
 match i, hi, hp with
 | 0, _, hp => injection hp with hp; injection hp with e1 e2; rw [← e1] at hop; rw [← e2]; exact rb21_0 w hop
 | 1, _, hp => injection hp with hp; injection hp with e1 e2; rw [← e1] at hop; rw [← e2]; exact rb21_1 w hop
 | 2, _, hp => injection hp with hp; injection hp with e1 e2; rw [← e1] at hop; rw [← e2]; exact rb21_2 w hop
 | 3, _, hp => injection hp with hp; injection hp with e1 e2; rw [← e1] at hop; rw [← e2]; exact rb21_3 w hop
 | 4, _, hp => injection hp with hp; injection hp with e1 e2; rw [← e1] at hop; rw [← e2]; exact rb21_4 w hop
 | 5, _, hp => injection hp with hp; injection hp with e1 e2; rw [← e1] at hop; rw [← e2]; exact rb21_5 w hop
 | 6, _, hp => injection hp with hp; injection hp with e1 e2; rw [← e1] at hop; rw [← e2]; exact rb21_6 w hop
 | 7, _, hp => injection hp with hp; injection hp with e1 e2; rw [← e1] at hop; rw [← e2]; exact rb21_7 w hop
 | 8, _, hp => injection hp with hp; injection hp with e1 e2; rw [← e1] at hop; rw [← e2]; exact rb21_8 w hop
 | 9, _, hp => injection hp with hp; injection hp with e1 e2; rw [← e1] at hop; rw [← e2]; exact rb21_9 w hop
 | 10, _, hp => injection hp with hp; injection hp with e1 e2; rw [← e1] at hop; rw [← e2]; exact rb21_10 w hop
 | 11, _, hp => injection hp with hp; injection hp with e1 e2; rw [← e1] at hop; rw [← e2]; exact rb21_11 w hop
 | 12, _, hp => injection hp with hp; injection hp with e1 e2; rw [← e1] at hop; rw [← e2]; exact rb21_12 w hop
 | 13, _, hp => injection hp with hp; injection hp with e1 e2; rw [← e1] at hop; rw [← e2]; exact rb21_13 w hop
 | i + 14, hi, _ => exact absurd hi (by show ¬ i + 14 < 14; omega)
end Go.Proofs.YtoofgblmpjndjaaGreatDoor.Scr
