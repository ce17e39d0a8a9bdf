/-
  Texts of this claim, joined by program (PnmH, PnmI, PnmJ). Walks: the program's reader of gaps.
-/
import Derived.Test.YtbmlopklhgladaaDoorZG7
import Derived.Test.YtbmlopklhgladaaDoorZG6
import Derived.StillTailTactics
import Derived.Lib.Bytes
import Derived.Lib.AtoiErrMem
import Derived.Shelf.SlSortCmp.QuietGrown
set_option linter.unusedVariables false
set_option linter.unusedSimpArgs false
namespace Go.Proofs.YtbmlopklhgladaaDoor.Pnm
open Go.RowKit K Ian

theorem iany_any {b o n c : Nat} {z : List Int} (w : World) (HZ : SI w .u8 (some ⟨b, o, none⟩) n z) (hwf : ∀ x ∈ z, 0 ≤ x ∧ x < 256) (h1 : 1 ≤ n) (h0 : z.getD 0 0 = 35) (hnc : n ≤ c) (HV : Vars w) :
    Calls Tryd.prog 72 #[.slice (some ⟨b, o, none⟩) n c, .string ⟨#[10, 13]⟩] w fun e w' => e = .returned (.int .i64 (ixI (nlM z 0))) ∧ Below w.heap.size w w' := by
  by_cases e1 : n = 1
  · subst e1; exact iany_one w HZ h0
  · by_cases e8 : n ≤ 8
    · exact iany_short w HZ hwf (by omega) e8 hnc HV
    · exact iany_long w HZ hwf (by omega)
theorem nlM_drop {l : List Int} {a : Nat} : ∀ (d i : Nat), l.length - (a + i) = d → nlM l (a + i) = (nlM (l.drop a) i).map (· + a) := by
  intro d
  induction d with
  | zero => intro i hd; rw [nlM_end (by omega), nlM_end (by rw [List.length_drop]; omega)]; rfl
  | succ d ih =>
    intro i hd
    have hg : (l.drop a).getD i 0 = l.getD (a + i) 0 := by simp [List.getD_eq_getElem?_getD, List.getElem?_drop]
    by_cases hh : l.getD (a + i) 0 = 10 ∨ l.getD (a + i) 0 = 13
    · rw [nlM_hit (by omega) hh, nlM_hit (by rw [List.length_drop]; omega) (by rw [hg]; exact hh)]
      simp; omega
    · rw [nlM_step (l := l) (a := a + i) (by omega) hh, nlM_step (l := l.drop a) (a := i) (by rw [List.length_drop]; omega) (by rw [hg]; exact hh)]
      exact ih (i + 1) (by omega)
def rdA (A : Option Addr) (n c a : Nat) (kind W H top : Int) : Array Value := #[.slice A n c, .int .i64 a, .int .i64 kind, .int .i64 W, .int .i64 H, .int .i64 top]
/-- the bytes lie in another block than the reader -/
def Off (w : World) (rb : Nat) (A : Option Addr) : Prop := ∀ a, A = some a → a.block ≠ rb ∧ a.block < w.heap.size
theorem SI.kept {w w' : World} {k : IntKind} {A : Option Addr} {n rb : Nat} {l : List Int} (h : SI w k A n l) (hg : w.grownBy w' (some rb)) (ho : Off w rb A) : SI w' k A n l :=
  ⟨h.len, h.sz, fun j u hu => by
    obtain ⟨b, off, rfl, hc⟩ := h.sl j u hu
    have := ho _ rfl
    exact ⟨b, off, rfl, (hg.cell_far ⟨b, off + j, none⟩ this.2 (fun e => this.1 (by injection e))).trans hc⟩⟩
theorem Off.kept {w w' : World} {rb : Nat} {A : Option Addr} {row : Option Nat} (ho : Off w rb A) (hg : w.grownBy w' row) : Off w' rb A := fun a e => ⟨(ho a e).1, Nat.lt_of_lt_of_le (ho a e).2 hg.size⟩
theorem Vars.grown {w w' : World} {rb : Nat} (h : Vars w) (hg : w.grownBy w' (some rb)) (hrb : vb ≤ rb) : Vars w' := h.kept hg.size (fun g hl => hg.block g (by have := h.len; omega) (fun e => by injection e; omega))
theorem SI.drop {w : World} {b o n a : Nat} {l : List Int} (h : SI w .u8 (some ⟨b, o, none⟩) n l) (ha : a ≤ n) : SI w .u8 (some ⟨b, o + a, none⟩) (n - a) (l.drop a) :=
  ⟨by rw [List.length_drop, h.len], by have : n * 1 ≤ 140737488351232 := h.sz; show (n - a) * 1 ≤ _; omega, fun j u hu => by
    rw [List.getElem?_map, List.getElem?_drop] at hu
    obtain ⟨b', o', e, hc⟩ := h.sl (a + j) u (by rw [List.getElem?_map]; exact hu)
    injection e with e
    injection e with e1 e2
    subst e1 e2
    exact ⟨b, o + a, rfl, by rw [Nat.add_assoc]; exact hc⟩⟩
/-- cells of the reader -/
theorem cells6 {w : World} {g T : Nat} {x0 x1 x2 x3 x4 x5 : Value} (h : w.heap[g]? = some (.cells #[x0, x1, x2, x3, x4, x5] T (0, 0))) :
    w.cell? ⟨g, 0, none⟩ = some x0 ∧ w.cell? ⟨g, 1, none⟩ = some x1 ∧ w.cell? ⟨g, 2, none⟩ = some x2 ∧ w.cell? ⟨g, 3, none⟩ = some x3 ∧ w.cell? ⟨g, 4, none⟩ = some x4 ∧ w.cell? ⟨g, 5, none⟩ = some x5 := by
  simp [World.cell?, h]
theorem frozen6 {w : World} {g T : Nat} {x0 x1 x2 x3 x4 x5 : Value} (h : w.heap[g]? = some (.cells #[x0, x1, x2, x3, x4, x5] T (0, 0))) (i : Nat) : w.frozen? ⟨g, i, none⟩ = false := by
  simp [World.frozen?, h]
theorem rd_set1 {w : World} {g T : Nat} {x0 x1 x2 x3 x4 x5 y : Value} (h : w.heap[g]? = some (.cells #[x0, x1, x2, x3, x4, x5] T (0, 0))) : (w.setCell ⟨g, 1, none⟩ y).heap[g]? = some (.cells #[x0, y, x2, x3, x4, x5] T (0, 0)) := by
  simp [World.setCell, Array.getElem?_modify, h]
/-- where the reader stands -/
def atOf (w : World) (rb : Nat) : Nat := match w.cell? ⟨rb, 1, none⟩ with
  | some v => (intOf v).toNat
  | none => 0
theorem atOf_row {w : World} {rb n c a : Nat} {A : Option Addr} {kind W H top : Int} (h : w.heap[rb]? = some (.cells (rdA A n c a kind W H top) 54 (0, 0))) : atOf w rb = a := by
  unfold rdA at h
  unfold atOf
  rw [(cells6 h).2.1]
  simp [intOf]
def GapP (w : World) (rb : Nat) (A : Option Addr) (n c a : Nat) (kind W H top : Int) (o : Option Nat) (e : Ending) (w' : World) : Prop :=
  w.grownBy w' (some rb) ∧ ∃ a' : Nat, w'.heap[rb]? = some (.cells (rdA A n c a' kind W H top) 54 (0, 0)) ∧ match o with
  | none => e = .returned (.int .i64 (-1))
  | some j => a' = j ∧ e = .returned (.int .i64 ((j : Int) - (a : Int)))
set_option maxRecDepth 20000 in
set_option maxHeartbeats 4000000 in
theorem pgap_any {rb n c a : Nat} {A : Option Addr} {l : List Int} {kind W H top : Int} (w : World) (hrow : w.heap[rb]? = some (.cells (rdA A n c a kind W H top) 54 (0, 0))) (HA : SI w .u8 A n l) (hwf : ∀ x ∈ l, 0 ≤ x ∧ x < 256) (hoff : Off w rb A) (hnc : n ≤ c) (HV : Vars w) (hrb : vb ≤ rb) (ha : a ≤ n) :
    Calls Tryd.prog 64 #[.pointer (some ⟨rb, 0, none⟩)] w (GapP w rb A n c a kind W H top (gapM l a)) := by
  have hbig := HA.bigb
  have HAA := Lib.hid HA
  have HWF := Lib.hid hwf
  have HLEN := Lib.hid HA.len
  have HOF := Lib.hid hoff
  have HVV := Lib.hid HV
  clear HA hwf hoff HV
  unfold rdA at hrow
  have HR := Lib.hid hrow
  obtain ⟨c0, c1, c2, c3, c4, c5⟩ := cells6 hrow
  clear hrow
  go_enter Tryd.func64, Tryd.ntmps64
  go_wp2
  clear c0 c1 c2 c3 c4 c5
  go_loopw [4] (fun _ wr => ∃ k : Nat, a ≤ k ∧ k ≤ n ∧ Hid (gapM l a = gapM l k) ∧ Hid (w.grownBy wr (some rb)) ∧ Hid (wr.heap[rb]? = some (.cells (rdA A n c k kind W H top) 54 (0, 0)))) (fun _ wr => n - atOf wr rb)
  case atStart => exact ⟨a, by omega, by omega, rfl, World.grownBy.refl _ _, HR.out⟩
  case round =>
    obtain ⟨k, hk1, hk2, HG, HB, HRK⟩ := hrel
    obtain ⟨c0, c1, c2, c3, c4, c5⟩ := cells6 HRK.out
    have hf1 := frozen6 HRK.out 1
    have HMS := Lib.hid (atOf_row HRK.out)
    by_cases hlt : k < n
    · have d1 : decide ((k : Int) < (n : Int)) = true := decide_eq_true (by omega)
      have HZ := Lib.hid (SI.kept HAA.out HB.out HOF.out)
      have HVr := Lib.hid (Vars.grown HVV.out HB.out hrb)
      obtain ⟨b1, o1, hA1, hcell⟩ := byte_at HZ.out hlt
      subst hA1
      have hkl : k < l.length := by have := HLEN.out; omega
      obtain ⟨x, hx⟩ : ∃ x, l.getD k 0 = x := ⟨_, rfl⟩
      rw [hx] at hcell
      have HX := Lib.hid hx
      clear hx
      go_wp2_with fail
      go_quiet (fail)
      obtain ⟨q1, rfl⟩ : ∃ q, q = nq := ⟨nq, rfl⟩
      go_wp2_with fail
      go_quiet (fail)
      go_wp2_with fail
      have HB2 : Hid (w.grownBy (wr.drewN (q1 + nq)) (some rb)) := grown_drewN HB.out _
      have HR2 : Hid ((wr.drewN (q1 + nq)).heap[rb]? = some (.cells (rdA (some ⟨b1, o1, none⟩) n c k kind W H top) 54 (0, 0))) := HRK.out
      have HZ2 : Hid (SI (wr.drewN (q1 + nq)) .u8 (some ⟨b1, o1, none⟩) n l) := Ard.si_drewN HZ.out _
      have HV2 : Hid (Vars (wr.drewN (q1 + nq))) := Vars.grown HVV.out HB2.out hrb
      clear c0 c1 c2 c3 c4 c5 hf1 hcell
      generalize wr.drewN (q1 + nq) = w2 at HB2 HR2 HZ2 HV2 ⊢
      obtain ⟨c0, c1, c2, c3, c4, c5⟩ := cells6 HR2.out
      have hf1 := frozen6 HR2.out 1
      refine (pspace_any x w2).mono ?_
      rintro e w' ⟨rfl, rfl⟩
      cases hs : spaceB x with
      | true =>
        have HN : Hid (gapM l a = gapM l (k + 1)) := by show _ = _; rw [HG.out, gapM_space hkl (by rw [HX.out]; exact hs)]
        have HRS : Hid ((w2.setCell ⟨rb, 1, none⟩ (.int .i64 ((k : Int) + 1))).heap[rb]? = some (.cells (rdA (some ⟨b1, o1, none⟩) n c (k + 1) kind W H top) 54 (0, 0))) := rd_set1 HR2.out
        go_wp2_with fail
        exact ⟨⟨k + 1, by omega, by omega, HN, grown_set HB2.out _ _, HRS⟩, by rw [atOf_row HRS.out, HMS.out]; omega⟩
      | false =>
        by_cases h35 : x = 35
        · have d2 : (x == 35) = true := by simp [h35]
          have hci : ¬ (c = k) := by omega
          have i0 : (0 : Int) ≤ (k : Int) := by omega
          have i1 : (k : Int) ≤ (n : Int) := by omega
          have i2 : (n : Int) ≤ (c : Int) := by omega
          go_wp2_with fail
          refine wp_region_still_tail 9 (by kernel_rfl) (by kernel_rfl) ?_
          simp only [List.take_succ_cons, List.take_zero, List.drop_succ_cons, List.drop_zero]
          repeat still_step
          refine wpStill_nil ?_
          change wpList _ _ _ _ _ (World.drew _)
          go_wp2_with fail
          have hbd : Below w2.heap.size w2 w2.drew := (Below.refl _ _).drew
          have HC : Hid (l.getD k 0 = 35) := by show _ = _; rw [HX.out]; exact h35
          have HND : Hid (nlM l (k + 1) = (nlM (l.drop k) 0).map (· + k)) := by
            show _ = _
            rw [← nlM_step hkl (by rw [HC.out]; omega)]
            exact nlM_drop _ 0 rfl
          have HG0 : Hid ((l.drop k).getD 0 0 = 35) := by show _ = _; rw [← HC.out]; simp [List.getD_eq_getElem?_getD, List.getElem?_drop]
          refine (iany_any w2.drew (SI.drop (HZ2.out.below hbd (Nat.le_refl _)) hk2) (fun y hy => HWF.out y (List.mem_of_mem_drop hy)) (by omega) HG0.out (by omega) (HV2.out.below hbd (Nat.le_refl _))).mono ?_
          rintro e w3 ⟨rfl, hb3⟩
          have HB3 : Hid (w.grownBy w3 (some rb)) := grown_trans HB2.out (grown_below (hbd.trans hb3) _)
          have HR3 : Hid (w3.heap[rb]? = some (.cells (rdA (some ⟨b1, o1, none⟩) n c k kind W H top) 54 (0, 0))) := ((hbd.trans hb3).block _ (Array.getElem?_eq_some_iff.1 HR2.out).1).trans HR2.out
          clear hbd hb3 c0 c1 c2 c3 c4 c5 hf1 i0 i1 i2
          obtain ⟨c0, c1, c2, c3, c4, c5⟩ := cells6 HR3.out
          have hf1 := frozen6 HR3.out 1
          cases hnl : nlM (l.drop k) 0 with
          | none =>
            have HN : Hid (gapM l a = none) := by show _ = _; rw [HG.out, gapM_none hkl HC.out (by rw [HND.out, hnl]; rfl)]
            clear hnl
            rw [show ixI none = (-1 : Int) from rfl]
            go_wp2_with fail
            go_ret
            exact ⟨HB3.out, k, HR3.out, by rw [HN.out]; rfl⟩
          | some j =>
            have hnd : nlM l (k + 1) = some (j + k) := by rw [HND.out, hnl]; rfl
            have hj := nlM_ge _ _ _ rfl hnd
            have HN : Hid (gapM l a = gapM l (k + j)) := by show _ = _; rw [HG.out, gapM_line hkl HC.out hnd, Nat.add_comm]
            have HRS : Hid ((w3.setCell ⟨rb, 1, none⟩ (.int .i64 ((k : Int) + (j : Int)))).heap[rb]? = some (.cells (rdA (some ⟨b1, o1, none⟩) n c (k + j) kind W H top) 54 (0, 0))) := rd_set1 HR3.out
            have d3 : decide ((j : Int) < 0) = false := decide_eq_false (by omega)
            have hjn : k + j ≤ n := by have := HLEN.out; omega
            clear hnl hnd
            rw [show ixI (some j) = (j : Int) from rfl]
            go_wp2_with fail
            exact ⟨⟨k + j, by omega, by omega, HN, grown_set HB3.out _ _, HRS⟩, by rw [atOf_row HRS.out, HMS.out]; omega⟩
        · have d2 : (x == 35) = false := by simp [h35]
          have HN : Hid (gapM l a = some k) := by show _ = _; rw [HG.out, gapM_stop hkl (by rw [HX.out, hs]; simp) (by rw [HX.out]; exact h35)]
          go_wp2_with fail
          go_ret
          exact ⟨HB2.out, k, HR2.out, by rw [HN.out]; exact ⟨rfl, rfl⟩⟩
    · obtain rfl : k = n := by omega
      have d1 : decide ((k : Int) < (k : Int)) = false := by simp
      have HN : Hid (gapM l a = some k) := by show _ = _; rw [HG.out, gapM_end (by have := HLEN.out; omega)]
      have HB2 : ∀ q, w.grownBy (wr.drewN q) (some rb) := fun q => grown_drewN HB.out q
      have HBQ := Lib.hid HB2
      clear HB2
      go_wp2_with fail
      go_quiet (fail)
      go_wp2_with fail
      go_ret
      exact ⟨HBQ.out _, k, HRK.out, by rw [HN.out]; exact ⟨rfl, rfl⟩⟩
end Go.Proofs.YtbmlopklhgladaaDoor.Pnm
set_option linter.unusedVariables false
set_option linter.unusedSimpArgs false
namespace Go.Proofs.YtbmlopklhgladaaDoor.Pnm
open Go.RowKit K Ian

theorem digitVal_of {x : Int} (h : digB x = true) : Lib.digitVal (UInt8.ofNat x.toNat) = some (x.toNat - 48) := by
  have := dig_ge h
  unfold Lib.digitVal
  rw [UInt8.toNat_ofNat_of_lt' (by show _ < 256; omega), if_pos (by omega)]
theorem decFrom_val {l : List Int} {a : Nat} : ∀ {k : Nat}, AllD l a k → Lib.decFrom 0 ((Lib.bytesOf (l.drop a)).take k) = some (valM l a k).toNat := by
  intro k
  induction k with
  | zero => intro h; rfl
  | succ k ih =>
    intro h
    have h0 : AllD l a k := ⟨by have := h.1; omega, fun i hi => h.2 i (by omega)⟩
    have hd := h.2 k (by omega)
    have hg := dig_ge hd
    have hlen := h.1
    have hv := h0.val.1
    have he : (Lib.bytesOf (l.drop a))[k]? = some (UInt8.ofNat (l.getD (a + k) 0).toNat) := by
      unfold Lib.bytesOf
      rw [List.getElem?_map, List.getElem?_drop, List.getElem?_eq_getElem (by omega)]
      simp [List.getD_eq_getElem?_getD, List.getElem?_eq_getElem (show a + k < l.length by omega)]
    rw [Lib.decFrom_take _ k 0 _ _ _ (ih h0) he (digitVal_of hd), valM]
    congr 1
    omega
theorem atoi_val {l : List Int} {a k : Nat} (h : AllD l a k) (hk : 1 ≤ k) : Lib.atoi (Lib.bytesOf ((l.drop a).take k)) = some (valM l a k) := by
  have hd := decFrom_val h
  have h0 := h.2 0 (by omega)
  rw [Nat.add_zero] at h0
  have hg := dig_ge h0
  have hlen := h.1
  have hv := h.val.1
  have e1 : Lib.bytesOf ((l.drop a).take k) = (Lib.bytesOf (l.drop a)).take k := by unfold Lib.bytesOf; rw [List.map_take]
  rw [e1]
  have hne : (Lib.bytesOf (l.drop a)).take k = UInt8.ofNat (l.getD a 0).toNat :: ((Lib.bytesOf (l.drop a)).take k).tail := by
    obtain ⟨x, r, hxr⟩ : ∃ x r, l.drop a = x :: r := by
      cases hh : l.drop a with
      | nil => have := congrArg List.length hh; rw [List.length_drop] at this; simp at this; omega
      | cons x r => exact ⟨x, r, rfl⟩
    have hx : l.getD a 0 = x := by
      have := congrArg (fun l => l[0]?) hxr
      simp only [List.getElem?_drop, Nat.add_zero, List.getElem?_cons_zero] at this
      simp [List.getD_eq_getElem?_getD, this]
    rw [hxr, hx]
    obtain ⟨k', rfl⟩ : ∃ k', k = k' + 1 := ⟨k - 1, by omega⟩
    simp [Lib.bytesOf]
  have h45 : (UInt8.ofNat (l.getD a 0).toNat == 45) = false := by
    rw [beq_eq_false_iff_ne]; intro e
    have := congrArg UInt8.toNat e
    rw [UInt8.toNat_ofNat_of_lt' (by show _ < 256; omega)] at this
    have h : (45 : UInt8).toNat = 45 := rfl
    omega
  have h43 : (UInt8.ofNat (l.getD a 0).toNat == 43) = false := by
    rw [beq_eq_false_iff_ne]; intro e
    have := congrArg UInt8.toNat e
    rw [UInt8.toNat_ofNat_of_lt' (by show _ < 256; omega)] at this
    have h : (43 : UInt8).toNat = 43 := rfl
    omega
  rw [hne] at hd ⊢
  unfold Lib.atoi
  simp only [h45, h43, Bool.false_eq_true, if_false]
  unfold Lib.decNat
  simp only [List.isEmpty_cons, Bool.false_eq_true, if_false, hd, Option.map_some]
  congr 1
  omega
theorem numM_end {l : List Int} {a k : Nat} (h : AllD l a k) (he : l.length ≤ a + k ∨ ¬ digB (l.getD (a + k) 0) = true) : numM l a = if k = 0 ∨ 9 < k then none else some (valM l a k, a + k) := by
  have h1 := h.digs
  have h2 : digsM l (a + k) = 0 := by
    rcases he with he | he
    · exact digsM_end he
    · exact digsM_stop he
  rw [h2, Nat.add_zero] at h1
  unfold numM
  rw [h1]
theorem bytesWorld_grow (w : World) (e : TypeId) (s : ByteArray) : ∃ os, Lib.bytesWorld w e s = Sort.grow (w.drewN 1) os := by
  unfold Lib.bytesWorld World.freeze
  rw [if_neg (by decide), Sort.alloc_eq_grow]
  unfold Sort.grow
  simp only []
  rw [Sort.modify_append_right _ _ _ _ (by show w.heap.size ≤ w.heap.size; exact Nat.le_refl _)]
  exact ⟨_, rfl⟩
theorem atoi_grown {s : ByteArray} {v : Int} {w : World} (hl : s.size ≤ 18) (h : Lib.atoi s.data.toList = some v) (m : Nat) (os : Array Obj) :
    Calls Tryd.prog 73 #[.string s] (Sort.grow (w.drewN m) os) fun e w'' => e = .returned (.tuple #[.int .i64 v, .nilIface]) ∧ ∃ p : GrownBy, w'' = Sort.grow (w.drewN p.n) p.os :=
  Calls.grown_of ((Shf.atoi s v hl h _).mono fun e w' ⟨he, t, hw⟩ => by
    obtain ⟨os', ho⟩ := bytesWorld_grow (Sort.grow (w.drewN m) os) 5 t
    exact ⟨he, 1, os', by rw [hw, ho]⟩)
def NumP (w : World) (rb : Nat) (A : Option Addr) (n c : Nat) (kind W H top lo hi : Int) (o : Option (Int × Nat)) (e : Ending) (w' : World) : Prop :=
  w.grownBy w' (some rb) ∧ ∃ a' : Nat, w'.heap[rb]? = some (.cells (rdA A n c a' kind W H top) 54 (0, 0)) ∧ match o with
  | none => e = .returned (.tuple #[.int .i64 0, .bool false])
  | some (v, g) => a' = g ∧ e = .returned (.tuple #[.int .i64 v, .bool (decide (lo ≤ v) && decide (v ≤ hi))])
set_option maxRecDepth 20000 in
set_option maxHeartbeats 4000000 in
theorem pnumber_any {rb n c a : Nat} {A : Option Addr} {l : List Int} {kind W H top lo hi : Int} (w : World) (hrow : w.heap[rb]? = some (.cells (rdA A n c a kind W H top) 54 (0, 0))) (HA : SI w .u8 A n l) (hoff : Off w rb A) (hnc : n ≤ c) (ha : a ≤ n) :
    Calls Tryd.prog 65 #[.pointer (some ⟨rb, 0, none⟩), .int .i64 lo, .int .i64 hi] w (NumP w rb A n c kind W H top lo hi (numM l a)) := by
  have hbig := HA.bigb
  have HAA := Lib.hid HA
  have HLEN := Lib.hid HA.len
  have HOF := Lib.hid hoff
  clear HA hoff
  unfold rdA at hrow
  have HR := Lib.hid hrow
  obtain ⟨c0, c1, c2, c3, c4, c5⟩ := cells6 hrow
  have hf1 := frozen6 hrow 1
  clear hrow
  go_enter Tryd.func65, Tryd.ntmps65
  go_wp2
  go_loopw [8] (fun sk wr => ∃ k : Nat, a + k ≤ n ∧ sk = .int .i64 k ∧ Hid (AllD l a k) ∧ ∃ q, wr = w.drewN q) (fun sk _ => n - (intOf sk).toNat)
  case atStart => exact ⟨0, by omega, rfl, AllD.nil l a (by have := HLEN.out; omega), 0, rfl⟩
  case round =>
    obtain ⟨k, hk, rfl, HD, q, rfl⟩ := hrel
    have b0 : (w.drewN q).cell? ⟨rb, 0, none⟩ = some (.slice A n c) := c0
    have b1 : (w.drewN q).cell? ⟨rb, 1, none⟩ = some (.int .i64 (a : Int)) := c1
    have e1 : IntKind.i64.wrap ((a : Int) + (k : Int)) = (a : Int) + (k : Int) := IntWalk.i64_in _ (by omega)
    by_cases hlt : a + k < n
    · have d1 : decide ((a : Int) + (k : Int) < (n : Int)) = true := decide_eq_true (by omega)
      obtain ⟨b9, o9, hA1, hcell0⟩ := byte_at HAA.out hlt
      have hcell : (w.drewN q).cell? ⟨b9, o9 + (a + k), none⟩ = some (.int .u8 (l.getD (a + k) 0)) := hcell0
      subst hA1
      obtain ⟨x, hx⟩ : ∃ x, l.getD (a + k) 0 = x := ⟨_, rfl⟩
      rw [hx] at hcell hcell0
      have HX := Lib.hid hx
      clear hx c2 c3 c4 c5
      have i0 : (0 : Int) ≤ (a : Int) + (k : Int) := by omega
      have i1 : (a : Int) + (k : Int) < (n : Int) := by omega
--<num
      by_cases h48 : 48 ≤ x
      · have d2 : decide (48 ≤ x) = true := decide_eq_true h48
        by_cases h57 : x ≤ 57
        · have d3 : decide (x ≤ 57) = true := decide_eq_true h57
          have HN : Hid (AllD l a (k + 1)) := HD.out.snoc (by have := HLEN.out; omega) (by rw [HX.out]; unfold digB; rw [d2, d3]; rfl)
          go_wp2_with fail
          go_quiet (fail)
          go_wp2_with fail
          refine ⟨⟨k + 1, by omega, by go_num, HN, _, rfl⟩, ?_⟩
          simp [intOf]; omega
        · have d3 : decide (x ≤ 57) = false := decide_eq_false h57
          have HEND : Hid (numM l a = if k = 0 ∨ 9 < k then none else some (valM l a k, a + k)) := numM_end HD.out (.inr (by rw [HX.out]; unfold digB; rw [d2, d3]; simp))
          have HGQ : Hid (∀ q, w.grownBy (w.drewN q) (some rb)) := fun q => grown_drewN (World.grownBy.refl _ _) q
          rcases (by omega : k = 0 ∨ 9 < k ∨ (1 ≤ k ∧ k ≤ 9)) with hk0 | hk9 | ⟨hk1, hk9⟩
          · have g1 : ((k : Int) == 0) = true := by simp [hk0]
            have HN : Hid (numM l a = none) := by show _ = _; rw [HEND.out, if_pos (.inl hk0)]
            clear hk0
            go_wp2_with fail
            go_quiet (fail)
            go_wp2_with fail
            go_ret2
            exact ⟨HGQ.out _, a, HR.out, by rw [HN.out]; rfl⟩
          · have g1 : ((k : Int) == 0) = false := by simp; omega
            have g2 : decide (9 < (k : Int)) = true := decide_eq_true (by omega)
            have HN : Hid (numM l a = none) := by show _ = _; rw [HEND.out, if_pos (.inr hk9)]
            go_wp2_with fail
            go_quiet (fail)
            go_wp2_with fail
            go_ret2
            exact ⟨HGQ.out _, a, HR.out, by rw [HN.out]; rfl⟩
          · have g1 : ((k : Int) == 0) = false := by simp; omega
            have g2 : decide (9 < (k : Int)) = false := decide_eq_false (by omega)
            have HN : Hid (numM l a = some (valM l a k, a + k)) := by show _ = _; rw [HEND.out, if_neg (by omega)]
            obtain ⟨b9', o9', hA9, -⟩ := byte_at HAA.out (show a < n by omega)
            try injection hA9 with hA9
            try injection hA9 with q1 q2 q3
            try subst q1 q2
            try subst hA9
            have HAT : Hid (Lib.atoi (strOfNums ((l.drop a).take k)).data.toList = some (valM l a k)) := by
              show _ = _
              rw [show (strOfNums ((l.drop a).take k)).data.toList = Lib.bytesOf ((l.drop a).take k) from by rw [← Lib.toList_data, Lib.strOfNums_toList]]
              exact atoi_val HD.out hk1
            have HSZ : Hid ((strOfNums ((l.drop a).take k)).size ≤ 18) := by
              show _ ≤ _
              rw [Lib.size_eq, show (strOfNums ((l.drop a).take k)).data.toList = Lib.bytesOf ((l.drop a).take k) from by rw [← Lib.toList_data, Lib.strOfNums_toList]]
              unfold Lib.bytesOf
              rw [List.length_map, List.length_take]; omega
            have hca : ¬ (c = a) := by omega
            have j0 : (0 : Int) ≤ (a : Int) := by omega
            have j1 : (a : Int) ≤ (a : Int) + (k : Int) := by omega
            have j2 : (a : Int) + (k : Int) ≤ (c : Int) := by omega
            go_wp2_with fail
            go_quiet (fail)
            go_wp2_with fail
            have HG2 : Hid (w.grownBy (w.drewN (q + nq)) (some rb)) := HGQ.out _
            have HR2 : Hid ((w.drewN (q + nq)).heap[rb]? = some (.cells (rdA (some ⟨b9, o9, none⟩) n c a kind W H top) 54 (0, 0))) := HR.out
            have HZ2 : Hid (SI (w.drewN (q + nq)) .u8 (some ⟨b9, o9, none⟩) n l) := Ard.si_drewN HAA.out _
            clear b0 b1 c0 c1 hf1 HGQ HR HAA
            generalize w.drewN (q + nq) = W2 at HG2 HR2 HZ2 ⊢
            have HCV : Hid (∀ m os, (convert 22 9 (.slice (some ⟨b9, o9 + a, none⟩) k (c - a))).run Tryd.prog (Sort.grow (W2.drewN m) os) = .ok (.string (strOfNums ((l.drop a).take k))) (Sort.grow (W2.drewN m) os)) := fun m os =>
              run_convert_bytes_arg (Sort.grow (W2.drewN m) os) 22 5 Tryd.underlying22 Tryd.underlying5 b9 (o9 + a) k (c - a) ((l.drop a).take k) (by rw [List.length_take, List.length_drop]; have := HLEN.out; omega) (fun i hi => by
                obtain ⟨b3, o3, hA3, hc3⟩ := byte_at HZ2.out (show a + i < n by omega)
                injection hA3 with hA3
                injection hA3 with q1 q2 q3
                subst q1 q2
                have e : ((l.drop a).take k).getD i 0 = l.getD (a + i) 0 := by simp [List.getD_eq_getElem?_getD, List.getElem?_take, List.getElem?_drop, hi]
                rw [e, Nat.add_assoc]; exact cell_grown (World.block_lt_of_cell? W2 _ hc3) hc3 m os) 9 Tryd.underlying9
            have hrlt : rb < W2.heap.size := (Array.getElem?_eq_some_iff.1 HR2.out).1
            obtain ⟨c0, c1, -⟩ := cells6 HR2.out
            have C0 := fun m os => cell_grown hrlt c0 m os
            have C1 := fun m os => cell_grown hrlt c1 m os
            have HCC := HCV.out
            generalize strOfNums ((l.drop a).take k) = str at HCC HAT HSZ
            generalize valM l a k = v at HN HAT
            clear HCV HEND HD
            refine wp_region_quiet_grown (by kernel_rfl) (by kernel_rfl) ?_
            repeat (first | go_big_quiet_step ((go_at_call 73; exact atoi_grown HSZ.out HAT.out _ _)) | quiet_step ((go_at_call 73; exact atoi_grown HSZ.out HAT.out _ _)))
            refine wpQuiet_nil ?_
            intro _ hw'
            obtain ⟨⟨nq, osq⟩, hw''⟩ := hw'
            subst hw''
            have HB3 : Hid (w.grownBy (Sort.grow (W2.drewN nq) osq) (some rb)) := grown_trans HG2.out (grown_below (Shf.below_grow W2 nq osq) _)
            have HR3 : Hid ((Sort.grow (W2.drewN nq) osq).heap[rb]? = some (.cells (rdA (some ⟨b9, o9, none⟩) n c a kind W H top) 54 (0, 0))) := ((Shf.below_grow W2 nq osq).block _ hrlt).trans HR2.out
            clear c0 c1 C0 C1 HCC
            generalize Sort.grow (W2.drewN nq) osq = W3 at HB3 HR3 ⊢
            obtain ⟨c0, c1, c2, c3, c4, c5⟩ := cells6 HR3.out
            have hf1 := frozen6 HR3.out 1
            have HRS : Hid ((W3.setCell ⟨rb, 1, none⟩ (.int .i64 ((a : Int) + (k : Int)))).heap[rb]? = some (.cells (rdA (some ⟨b9, o9, none⟩) n c (a + k) kind W H top) 54 (0, 0))) := rd_set1 HR3.out
            cases hlo : decide (lo ≤ v) with
            | true =>
              cases hhi : decide (v ≤ hi) with
              | true =>
                go_wp2_with fail
                go_ret2
                exact ⟨grown_set HB3.out _ _, a + k, HRS.out, by rw [HN.out]; exact ⟨rfl, by rw [hlo, hhi]; rfl⟩⟩
              | false =>
                go_wp2_with fail
                go_ret2
                exact ⟨grown_set HB3.out _ _, a + k, HRS.out, by rw [HN.out]; exact ⟨rfl, by rw [hlo, hhi]; rfl⟩⟩
            | false =>
              go_wp2_with fail
              go_ret2
              exact ⟨grown_set HB3.out _ _, a + k, HRS.out, by rw [HN.out]; exact ⟨rfl, by rw [hlo]; rfl⟩⟩
      · have d2 : decide (48 ≤ x) = false := decide_eq_false h48
        have HEND : Hid (numM l a = if k = 0 ∨ 9 < k then none else some (valM l a k, a + k)) := numM_end HD.out (.inr (by rw [HX.out]; unfold digB; rw [d2]; simp))
        have HGQ : Hid (∀ q, w.grownBy (w.drewN q) (some rb)) := fun q => grown_drewN (World.grownBy.refl _ _) q
        rcases (by omega : k = 0 ∨ 9 < k ∨ (1 ≤ k ∧ k ≤ 9)) with hk0 | hk9 | ⟨hk1, hk9⟩
        · have g1 : ((k : Int) == 0) = true := by simp [hk0]
          have HN : Hid (numM l a = none) := by show _ = _; rw [HEND.out, if_pos (.inl hk0)]
          clear hk0
          go_wp2_with fail
          go_quiet (fail)
          go_wp2_with fail
          go_ret2
          exact ⟨HGQ.out _, a, HR.out, by rw [HN.out]; rfl⟩
        · have g1 : ((k : Int) == 0) = false := by simp; omega
          have g2 : decide (9 < (k : Int)) = true := decide_eq_true (by omega)
          have HN : Hid (numM l a = none) := by show _ = _; rw [HEND.out, if_pos (.inr hk9)]
          go_wp2_with fail
          go_quiet (fail)
          go_wp2_with fail
          go_ret2
          exact ⟨HGQ.out _, a, HR.out, by rw [HN.out]; rfl⟩
        · have g1 : ((k : Int) == 0) = false := by simp; omega
          have g2 : decide (9 < (k : Int)) = false := decide_eq_false (by omega)
          have HN : Hid (numM l a = some (valM l a k, a + k)) := by show _ = _; rw [HEND.out, if_neg (by omega)]
          obtain ⟨b9', o9', hA9, -⟩ := byte_at HAA.out (show a < n by omega)
          try injection hA9 with hA9
          try injection hA9 with q1 q2 q3
          try subst q1 q2
          try subst hA9
          have HAT : Hid (Lib.atoi (strOfNums ((l.drop a).take k)).data.toList = some (valM l a k)) := by
            show _ = _
            rw [show (strOfNums ((l.drop a).take k)).data.toList = Lib.bytesOf ((l.drop a).take k) from by rw [← Lib.toList_data, Lib.strOfNums_toList]]
            exact atoi_val HD.out hk1
          have HSZ : Hid ((strOfNums ((l.drop a).take k)).size ≤ 18) := by
            show _ ≤ _
            rw [Lib.size_eq, show (strOfNums ((l.drop a).take k)).data.toList = Lib.bytesOf ((l.drop a).take k) from by rw [← Lib.toList_data, Lib.strOfNums_toList]]
            unfold Lib.bytesOf
            rw [List.length_map, List.length_take]; omega
          have hca : ¬ (c = a) := by omega
          have j0 : (0 : Int) ≤ (a : Int) := by omega
          have j1 : (a : Int) ≤ (a : Int) + (k : Int) := by omega
          have j2 : (a : Int) + (k : Int) ≤ (c : Int) := by omega
          go_wp2_with fail
          go_quiet (fail)
          go_wp2_with fail
          have HG2 : Hid (w.grownBy (w.drewN (q + nq)) (some rb)) := HGQ.out _
          have HR2 : Hid ((w.drewN (q + nq)).heap[rb]? = some (.cells (rdA (some ⟨b9, o9, none⟩) n c a kind W H top) 54 (0, 0))) := HR.out
          have HZ2 : Hid (SI (w.drewN (q + nq)) .u8 (some ⟨b9, o9, none⟩) n l) := Ard.si_drewN HAA.out _
          clear b0 b1 c0 c1 hf1 HGQ HR HAA
          generalize w.drewN (q + nq) = W2 at HG2 HR2 HZ2 ⊢
          have HCV : Hid (∀ m os, (convert 22 9 (.slice (some ⟨b9, o9 + a, none⟩) k (c - a))).run Tryd.prog (Sort.grow (W2.drewN m) os) = .ok (.string (strOfNums ((l.drop a).take k))) (Sort.grow (W2.drewN m) os)) := fun m os =>
            run_convert_bytes_arg (Sort.grow (W2.drewN m) os) 22 5 Tryd.underlying22 Tryd.underlying5 b9 (o9 + a) k (c - a) ((l.drop a).take k) (by rw [List.length_take, List.length_drop]; have := HLEN.out; omega) (fun i hi => by
              obtain ⟨b3, o3, hA3, hc3⟩ := byte_at HZ2.out (show a + i < n by omega)
              injection hA3 with hA3
              injection hA3 with q1 q2 q3
              subst q1 q2
              have e : ((l.drop a).take k).getD i 0 = l.getD (a + i) 0 := by simp [List.getD_eq_getElem?_getD, List.getElem?_take, List.getElem?_drop, hi]
              rw [e, Nat.add_assoc]; exact cell_grown (World.block_lt_of_cell? W2 _ hc3) hc3 m os) 9 Tryd.underlying9
          have hrlt : rb < W2.heap.size := (Array.getElem?_eq_some_iff.1 HR2.out).1
          obtain ⟨c0, c1, -⟩ := cells6 HR2.out
          have C0 := fun m os => cell_grown hrlt c0 m os
          have C1 := fun m os => cell_grown hrlt c1 m os
          have HCC := HCV.out
          generalize strOfNums ((l.drop a).take k) = str at HCC HAT HSZ
          generalize valM l a k = v at HN HAT
          clear HCV HEND HD
          refine wp_region_quiet_grown (by kernel_rfl) (by kernel_rfl) ?_
          repeat (first | go_big_quiet_step ((go_at_call 73; exact atoi_grown HSZ.out HAT.out _ _)) | quiet_step ((go_at_call 73; exact atoi_grown HSZ.out HAT.out _ _)))
          refine wpQuiet_nil ?_
          intro _ hw'
          obtain ⟨⟨nq, osq⟩, hw''⟩ := hw'
          subst hw''
          have HB3 : Hid (w.grownBy (Sort.grow (W2.drewN nq) osq) (some rb)) := grown_trans HG2.out (grown_below (Shf.below_grow W2 nq osq) _)
          have HR3 : Hid ((Sort.grow (W2.drewN nq) osq).heap[rb]? = some (.cells (rdA (some ⟨b9, o9, none⟩) n c a kind W H top) 54 (0, 0))) := ((Shf.below_grow W2 nq osq).block _ hrlt).trans HR2.out
          clear c0 c1 C0 C1 HCC
          generalize Sort.grow (W2.drewN nq) osq = W3 at HB3 HR3 ⊢
          obtain ⟨c0, c1, c2, c3, c4, c5⟩ := cells6 HR3.out
          have hf1 := frozen6 HR3.out 1
          have HRS : Hid ((W3.setCell ⟨rb, 1, none⟩ (.int .i64 ((a : Int) + (k : Int)))).heap[rb]? = some (.cells (rdA (some ⟨b9, o9, none⟩) n c (a + k) kind W H top) 54 (0, 0))) := rd_set1 HR3.out
          cases hlo : decide (lo ≤ v) with
          | true =>
            cases hhi : decide (v ≤ hi) with
            | true =>
              go_wp2_with fail
              go_ret2
              exact ⟨grown_set HB3.out _ _, a + k, HRS.out, by rw [HN.out]; exact ⟨rfl, by rw [hlo, hhi]; rfl⟩⟩
            | false =>
              go_wp2_with fail
              go_ret2
              exact ⟨grown_set HB3.out _ _, a + k, HRS.out, by rw [HN.out]; exact ⟨rfl, by rw [hlo, hhi]; rfl⟩⟩
          | false =>
            go_wp2_with fail
            go_ret2
            exact ⟨grown_set HB3.out _ _, a + k, HRS.out, by rw [HN.out]; exact ⟨rfl, by rw [hlo]; rfl⟩⟩
    · have d1 : decide ((a : Int) + (k : Int) < (n : Int)) = false := decide_eq_false (by omega)
      have HEND : Hid (numM l a = if k = 0 ∨ 9 < k then none else some (valM l a k, a + k)) := numM_end HD.out (.inl (by have := HLEN.out; omega))
      have HGQ : Hid (∀ q, w.grownBy (w.drewN q) (some rb)) := fun q => grown_drewN (World.grownBy.refl _ _) q
      rcases (by omega : k = 0 ∨ 9 < k ∨ (1 ≤ k ∧ k ≤ 9)) with hk0 | hk9 | ⟨hk1, hk9⟩
      · have g1 : ((k : Int) == 0) = true := by simp [hk0]
        have HN : Hid (numM l a = none) := by show _ = _; rw [HEND.out, if_pos (.inl hk0)]
        clear hk0
        go_wp2_with fail
        go_quiet (fail)
        go_wp2_with fail
        go_ret2
        exact ⟨HGQ.out _, a, HR.out, by rw [HN.out]; rfl⟩
      · have g1 : ((k : Int) == 0) = false := by simp; omega
        have g2 : decide (9 < (k : Int)) = true := decide_eq_true (by omega)
        have HN : Hid (numM l a = none) := by show _ = _; rw [HEND.out, if_pos (.inr hk9)]
        go_wp2_with fail
        go_quiet (fail)
        go_wp2_with fail
        go_ret2
        exact ⟨HGQ.out _, a, HR.out, by rw [HN.out]; rfl⟩
      · have g1 : ((k : Int) == 0) = false := by simp; omega
        have g2 : decide (9 < (k : Int)) = false := decide_eq_false (by omega)
        have HN : Hid (numM l a = some (valM l a k, a + k)) := by show _ = _; rw [HEND.out, if_neg (by omega)]
        obtain ⟨b9', o9', hA9, -⟩ := byte_at HAA.out (show a < n by omega)
        try injection hA9 with hA9
        try injection hA9 with q1 q2 q3
        try subst q1 q2
        try subst hA9
        have HAT : Hid (Lib.atoi (strOfNums ((l.drop a).take k)).data.toList = some (valM l a k)) := by
          show _ = _
          rw [show (strOfNums ((l.drop a).take k)).data.toList = Lib.bytesOf ((l.drop a).take k) from by rw [← Lib.toList_data, Lib.strOfNums_toList]]
          exact atoi_val HD.out hk1
        have HSZ : Hid ((strOfNums ((l.drop a).take k)).size ≤ 18) := by
          show _ ≤ _
          rw [Lib.size_eq, show (strOfNums ((l.drop a).take k)).data.toList = Lib.bytesOf ((l.drop a).take k) from by rw [← Lib.toList_data, Lib.strOfNums_toList]]
          unfold Lib.bytesOf
          rw [List.length_map, List.length_take]; omega
        have hca : ¬ (c = a) := by omega
        have j0 : (0 : Int) ≤ (a : Int) := by omega
        have j1 : (a : Int) ≤ (a : Int) + (k : Int) := by omega
        have j2 : (a : Int) + (k : Int) ≤ (c : Int) := by omega
        go_wp2_with fail
        go_quiet (fail)
        go_wp2_with fail
        have HG2 : Hid (w.grownBy (w.drewN (q + nq)) (some rb)) := HGQ.out _
        have HR2 : Hid ((w.drewN (q + nq)).heap[rb]? = some (.cells (rdA (some ⟨b9', o9', none⟩) n c a kind W H top) 54 (0, 0))) := HR.out
        have HZ2 : Hid (SI (w.drewN (q + nq)) .u8 (some ⟨b9', o9', none⟩) n l) := Ard.si_drewN HAA.out _
        clear b0 b1 c0 c1 hf1 HGQ HR HAA
        generalize w.drewN (q + nq) = W2 at HG2 HR2 HZ2 ⊢
        have HCV : Hid (∀ m os, (convert 22 9 (.slice (some ⟨b9', o9' + a, none⟩) k (c - a))).run Tryd.prog (Sort.grow (W2.drewN m) os) = .ok (.string (strOfNums ((l.drop a).take k))) (Sort.grow (W2.drewN m) os)) := fun m os =>
          run_convert_bytes_arg (Sort.grow (W2.drewN m) os) 22 5 Tryd.underlying22 Tryd.underlying5 b9' (o9' + a) k (c - a) ((l.drop a).take k) (by rw [List.length_take, List.length_drop]; have := HLEN.out; omega) (fun i hi => by
            obtain ⟨b3, o3, hA3, hc3⟩ := byte_at HZ2.out (show a + i < n by omega)
            injection hA3 with hA3
            injection hA3 with q1 q2 q3
            subst q1 q2
            have e : ((l.drop a).take k).getD i 0 = l.getD (a + i) 0 := by simp [List.getD_eq_getElem?_getD, List.getElem?_take, List.getElem?_drop, hi]
            rw [e, Nat.add_assoc]; exact cell_grown (World.block_lt_of_cell? W2 _ hc3) hc3 m os) 9 Tryd.underlying9
        have hrlt : rb < W2.heap.size := (Array.getElem?_eq_some_iff.1 HR2.out).1
        obtain ⟨c0, c1, -⟩ := cells6 HR2.out
        have C0 := fun m os => cell_grown hrlt c0 m os
        have C1 := fun m os => cell_grown hrlt c1 m os
        have HCC := HCV.out
        generalize strOfNums ((l.drop a).take k) = str at HCC HAT HSZ
        generalize valM l a k = v at HN HAT
        clear HCV HEND HD
        refine wp_region_quiet_grown (by kernel_rfl) (by kernel_rfl) ?_
        repeat (first | go_big_quiet_step ((go_at_call 73; exact atoi_grown HSZ.out HAT.out _ _)) | quiet_step ((go_at_call 73; exact atoi_grown HSZ.out HAT.out _ _)))
        refine wpQuiet_nil ?_
        intro _ hw'
        obtain ⟨⟨nq, osq⟩, hw''⟩ := hw'
        subst hw''
        have HB3 : Hid (w.grownBy (Sort.grow (W2.drewN nq) osq) (some rb)) := grown_trans HG2.out (grown_below (Shf.below_grow W2 nq osq) _)
        have HR3 : Hid ((Sort.grow (W2.drewN nq) osq).heap[rb]? = some (.cells (rdA (some ⟨b9', o9', none⟩) n c a kind W H top) 54 (0, 0))) := ((Shf.below_grow W2 nq osq).block _ hrlt).trans HR2.out
        clear c0 c1 C0 C1 HCC
        generalize Sort.grow (W2.drewN nq) osq = W3 at HB3 HR3 ⊢
        obtain ⟨c0, c1, c2, c3, c4, c5⟩ := cells6 HR3.out
        have hf1 := frozen6 HR3.out 1
        have HRS : Hid ((W3.setCell ⟨rb, 1, none⟩ (.int .i64 ((a : Int) + (k : Int)))).heap[rb]? = some (.cells (rdA (some ⟨b9', o9', none⟩) n c (a + k) kind W H top) 54 (0, 0))) := rd_set1 HR3.out
        cases hlo : decide (lo ≤ v) with
        | true =>
          cases hhi : decide (v ≤ hi) with
          | true =>
            go_wp2_with fail
            go_ret2
            exact ⟨grown_set HB3.out _ _, a + k, HRS.out, by rw [HN.out]; exact ⟨rfl, by rw [hlo, hhi]; rfl⟩⟩
          | false =>
            go_wp2_with fail
            go_ret2
            exact ⟨grown_set HB3.out _ _, a + k, HRS.out, by rw [HN.out]; exact ⟨rfl, by rw [hlo, hhi]; rfl⟩⟩
        | false =>
          go_wp2_with fail
          go_ret2
          exact ⟨grown_set HB3.out _ _, a + k, HRS.out, by rw [HN.out]; exact ⟨rfl, by rw [hlo]; rfl⟩⟩
--num>
end Go.Proofs.YtbmlopklhgladaaDoor.Pnm
set_option linter.unusedVariables false
set_option linter.unusedSimpArgs false
namespace Go.Proofs.YtbmlopklhgladaaDoor.Pnm
open Go.RowKit K Ian

theorem NumP.after {w w1 w' : World} {rb n c : Nat} {A : Option Addr} {kind W H top lo hi : Int} {o : Option (Int × Nat)} {e : Ending} (hg : w.grownBy w1 (some rb)) (h : NumP w1 rb A n c kind W H top lo hi o e w') : NumP w rb A n c kind W H top lo hi o e w' :=
  ⟨grown_trans hg h.1, h.2⟩
set_option maxHeartbeats 1000000 in
theorem pbehind_any {rb n c a : Nat} {A : Option Addr} {l : List Int} {kind W H top lo hi : Int} (w : World) (hrow : w.heap[rb]? = some (.cells (rdA A n c a kind W H top) 54 (0, 0))) (HA : SI w .u8 A n l) (hwf : ∀ x ∈ l, 0 ≤ x ∧ x < 256) (hoff : Off w rb A) (hnc : n ≤ c) (HV : Vars w) (hrb : vb ≤ rb) (ha : a ≤ n) :
    Calls Tryd.prog 41 #[.pointer (some ⟨rb, 0, none⟩), .int .i64 lo, .int .i64 hi] w (NumP w rb A n c kind W H top lo hi (behindM l a)) := by
  have HG := Lib.hid (pgap_any w hrow HA hwf hoff hnc HV hrb ha)
  have HAA := Lib.hid HA
  have HLEN := Lib.hid HA.len
  have HOF := Lib.hid hoff
  have hbig := HA.bigb
  clear hrow HA hwf hoff HV
  go_enter Tryd.func41, Tryd.ntmps41
  go_wp2_with fail
  refine HG.out.mono ?_
  rintro e w1 ⟨hg1, a1, hr1, hres⟩
  have HG1 := Lib.hid hg1
  have HR1 := Lib.hid hr1
  clear hg1 hr1 HG
  cases hg : gapM l a with
  | none =>
    have HB : Hid (behindM l a = none) := by show _ = _; unfold behindM; rw [hg]
    rw [hg] at hres
    obtain rfl := hres
    clear hg
    go_wp2_with fail
    go_ret2
    exact ⟨HG1.out, a1, HR1.out, by rw [HB.out]; rfl⟩
  | some j =>
    have hj := gapM_ge _ _ _ rfl hg
    rw [hg] at hres
    obtain ⟨rfl, rfl⟩ := hres
    have HGA := Lib.hid hg
    clear hg
    by_cases hja : a1 ≤ a
    · have HB : Hid (behindM l a = none) := by show _ = _; unfold behindM; rw [HGA.out]; simp only []; rw [if_pos hja]
      have d1 : decide ((a1 : Int) - (a : Int) < 1) = true := decide_eq_true (by omega)
      go_wp2_with fail
      go_ret2
      exact ⟨HG1.out, a1, HR1.out, by rw [HB.out]; rfl⟩
    · have HB : Hid (behindM l a = numM l a1) := by show _ = _; unfold behindM; rw [HGA.out]; simp only []; rw [if_neg hja]
      have d1 : decide ((a1 : Int) - (a : Int) < 1) = false := decide_eq_false (by omega)
      have HN := Lib.hid (pnumber_any (lo := lo) (hi := hi) w1 HR1.out (SI.kept HAA.out HG1.out HOF.out) (Off.kept HOF.out HG1.out) hnc (by have := HLEN.out; omega))
      go_wp2_with fail
      refine HN.out.mono ?_
      rintro e w2 hres
      have HP := Lib.hid (NumP.after HG1.out hres)
      clear hres HN
      obtain ⟨hg2, a2, hr2, hres⟩ := HP.out
      have HG2 := Lib.hid hg2
      have HR2 := Lib.hid hr2
      clear hg2 hr2 HP
      cases hn : numM l a1 with
      | none =>
        rw [hn] at hres
        obtain rfl := hres
        have HF : Hid (behindM l a = none) := HB.out.trans hn
        clear hn
        go_wp2_with fail
        go_ret2
        exact ⟨HG2.out, a2, HR2.out, by rw [HF.out]; rfl⟩
      | some vg =>
        obtain ⟨v, g⟩ := vg
        rw [hn] at hres
        obtain ⟨rfl, rfl⟩ := hres
        have HF : Hid (behindM l a = some (v, a2)) := HB.out.trans hn
        clear hn
        go_wp2_with fail
        go_ret2
        exact ⟨HG2.out, a2, HR2.out, by rw [HF.out]; exact ⟨rfl, rfl⟩⟩
theorem rd_set2 {w : World} {g T : Nat} {x0 x1 x2 x3 x4 x5 y : Value} (h : w.heap[g]? = some (.cells #[x0, x1, x2, x3, x4, x5] T (0, 0))) : (w.setCell ⟨g, 2, none⟩ y).heap[g]? = some (.cells #[x0, x1, y, x3, x4, x5] T (0, 0)) := by
  simp [World.setCell, Array.getElem?_modify, h]
theorem rd_set3 {w : World} {g T : Nat} {x0 x1 x2 x3 x4 x5 y : Value} (h : w.heap[g]? = some (.cells #[x0, x1, x2, x3, x4, x5] T (0, 0))) : (w.setCell ⟨g, 3, none⟩ y).heap[g]? = some (.cells #[x0, x1, x2, y, x4, x5] T (0, 0)) := by
  simp [World.setCell, Array.getElem?_modify, h]
theorem rd_set4 {w : World} {g T : Nat} {x0 x1 x2 x3 x4 x5 y : Value} (h : w.heap[g]? = some (.cells #[x0, x1, x2, x3, x4, x5] T (0, 0))) : (w.setCell ⟨g, 4, none⟩ y).heap[g]? = some (.cells #[x0, x1, x2, x3, y, x5] T (0, 0)) := by
  simp [World.setCell, Array.getElem?_modify, h]
theorem rd_set5 {w : World} {g T : Nat} {x0 x1 x2 x3 x4 x5 y : Value} (h : w.heap[g]? = some (.cells #[x0, x1, x2, x3, x4, x5] T (0, 0))) : (w.setCell ⟨g, 5, none⟩ y).heap[g]? = some (.cells #[x0, x1, x2, x3, x4, y] T (0, 0)) := by
  simp [World.setCell, Array.getElem?_modify, h]
def PHeadP (w : World) (rb : Nat) (A : Option Addr) (n c : Nat) (o : Option Hd) (e : Ending) (w' : World) : Prop :=
  w.grownBy w' (some rb) ∧ match o with
  | none => e = .returned (.bool false)
  | some h => w'.heap[rb]? = some (.cells (rdA A n c h.a h.kind h.w h.h h.top) 54 (0, 0)) ∧ e = .returned (.bool true)
set_option maxRecDepth 20000 in
set_option maxHeartbeats 8000000 in
theorem phead_any {rb n c : Nat} {A : Option Addr} {l : List Int} (w : World) (hrow : w.heap[rb]? = some (.cells (rdA A n c 0 0 0 0 0) 54 (0, 0))) (HA : SI w .u8 A n l) (hwf : ∀ x ∈ l, 0 ≤ x ∧ x < 256) (hoff : Off w rb A) (hnc : n ≤ c) (HV : Vars w) (hrb : vb ≤ rb) :
    Calls Tryd.prog 21 #[.pointer (some ⟨rb, 0, none⟩)] w (PHeadP w rb A n c (headM l)) := by
  have HAA := Lib.hid HA
  have HWF := Lib.hid hwf
  have HLEN := Lib.hid HA.len
  have HOF := Lib.hid hoff
  have HVV := Lib.hid HV
  have hbig := HA.bigb
  unfold rdA at hrow
  have HR := Lib.hid hrow
  obtain ⟨c0, c1, c2, c3, c4, c5⟩ := cells6 hrow
  have hf1 := frozen6 hrow 1
  have hf2 := frozen6 hrow 2
  have hf5 := frozen6 hrow 5
  clear hrow hoff HV
  by_cases h2 : n < 2
  · have HH : Hid (headM l = none) := by show _ = _; unfold headM; rw [if_pos (.inl (by have := HLEN.out; omega))]
    have d1 : decide ((n : Int) < 2) = true := decide_eq_true (by omega)
    clear HA hwf
    go_enter Tryd.func21, Tryd.ntmps21
    go_wp2
    go_ret
    exact ⟨World.grownBy.refl _ _, by rw [HH.out]; rfl⟩
  · have d1 : decide ((n : Int) < 2) = false := decide_eq_false (by omega)
    obtain ⟨b1, o1, hA1, hc0⟩ := byte_at HA (show 0 < n by omega)
    obtain ⟨b2, o2, hA2, hc1⟩ := byte_at HA (show 1 < n by omega)
    rw [hA1] at hA2
    injection hA2 with hA2
    injection hA2 with q1 q2 q3
    subst q1 q2 hA1
    rw [Nat.add_zero] at hc0
    obtain ⟨x0, hx0⟩ : ∃ x, l.getD 0 0 = x := ⟨_, rfl⟩
    obtain ⟨x1, hx1⟩ : ∃ x, l.getD 1 0 = x := ⟨_, rfl⟩
    have hxb := getD_wf hwf 1
    rw [hx0] at hc0
    rw [hx1] at hc1 hxb
    have hl0 : (0 : Int) < (n : Int) := by omega
    have hl1 : (1 : Int) < (n : Int) := by omega
    clear HA hwf
    by_cases h80 : x0 = 80
    · have d2 : (x0 != 80) = false := by simp [h80]
      by_cases h49 : x1 < 49
      · have HH : Hid (headM l = none) := by show _ = _; unfold headM; rw [if_pos (.inr (.inr (.inl (by rw [hx1]; exact h49))))]
        have d3 : decide (x1 < 49) = true := decide_eq_true h49
        clear hx0 hx1
        go_enter Tryd.func21, Tryd.ntmps21
        go_wp2
        go_ret
        exact ⟨World.grownBy.refl _ _, by rw [HH.out]; rfl⟩
      · have d3 : decide (x1 < 49) = false := decide_eq_false h49
        by_cases h54 : 54 < x1
        · have HH : Hid (headM l = none) := by show _ = _; unfold headM; rw [if_pos (.inr (.inr (.inr (by rw [hx1]; exact h54))))]
          have d4 : decide (54 < x1) = true := decide_eq_true h54
          clear hx0 hx1
          go_enter Tryd.func21, Tryd.ntmps21
          go_wp2
          go_ret
          exact ⟨World.grownBy.refl _ _, by rw [HH.out]; rfl⟩
        · have d4 : decide (54 < x1) = false := decide_eq_false h54
          have HH : Hid (headM l = match behindM l 2 with
            | none => none
            | some (x, a) => if x < 1 then none else
              match behindM l a with
              | none => none
              | some (y, e) => if y < 1 then none else
                if x1 = 49 ∨ x1 = 52 then some ⟨x1 - 48, x, y, 1, e⟩
                else match behindM l e with
                  | none => none
                  | some (t, g) => if t < 1 ∨ 65535 < t then none else some ⟨x1 - 48, x, y, t, g⟩) := by
            show _ = _
            unfold headM
            rw [if_neg (by rw [hx0, hx1]; have := HLEN.out; omega), hx1]
            rfl
          clear hx0 hx1
          have HR1 : Hid ((((w.setCell ⟨rb, 2, none⟩ (.int .i64 (x1 - 48))).setCell ⟨rb, 1, none⟩ (.int .i64 2)).setCell ⟨rb, 5, none⟩ (.int .i64 1)).heap[rb]? = some (.cells (rdA (some ⟨b1, o1, none⟩) n c 2 (x1 - 48) 0 0 1) 54 (0, 0))) := rd_set5 (rd_set1 (rd_set2 HR.out))
          have HG1 : Hid (w.grownBy (((w.setCell ⟨rb, 2, none⟩ (.int .i64 (x1 - 48))).setCell ⟨rb, 1, none⟩ (.int .i64 2)).setCell ⟨rb, 5, none⟩ (.int .i64 1)) (some rb)) := grown_set (grown_set (grown_set (World.grownBy.refl _ _) _ _) _ _) _ _
          go_enter Tryd.func21, Tryd.ntmps21
          go_wp2_with fail
--<head
          clear c0 c1 c2 c3 c4 c5 hf1 hf2 hf5 hc0 hc1
          generalize ((w.setCell ⟨rb, 2, none⟩ (.int .i64 (x1 - 48))).setCell ⟨rb, 1, none⟩ (.int .i64 2)).setCell ⟨rb, 5, none⟩ (.int .i64 1) = W1 at HR1 HG1 ⊢
          refine (pbehind_any (a := 2) W1 HR1.out (SI.kept HAA.out HG1.out HOF.out) HWF.out (Off.kept HOF.out HG1.out) hnc (Vars.grown HVV.out HG1.out hrb) hrb (by have := HLEN.out; omega)).mono ?_
          rintro e u1 ⟨hg, p1, hr, hres⟩
          have GU1 : Hid (w.grownBy u1 (some rb)) := grown_trans HG1.out hg
          have RU1 := Lib.hid hr
          clear hg hr
          have hf1 := frozen6 RU1.out 3
          obtain ⟨s0, s1, s2, s3, s4, s5⟩ := cells6 RU1.out
          cases hB1 : behindM l 2 with
          | none =>
            rw [hB1] at hres
            obtain rfl := hres
            have HF : Hid (headM l = none) := by show _ = _; rw [HH.out, hB1]
            clear hB1
            go_wp2_with fail
            go_ret
            exact ⟨grown_set GU1.out _ _, by rw [HF.out]; rfl⟩
          | some va =>
            obtain ⟨x, q1⟩ := va
            rw [hB1] at hres
            obtain ⟨rfl, rfl⟩ := hres
            have hab1 := behindM_bd hB1 (by have := HLEN.out; omega)
            have HB1 := Lib.hid hB1
            clear hB1
            by_cases hv1 : x < 1
            · have HF : Hid (headM l = none) := by show _ = _; rw [HH.out, HB1.out]; simp only []; rw [if_pos hv1]
              rw [show (decide (1 ≤ x) && decide (x ≤ 999999999)) = false by rw [Bool.and_eq_false_iff]; simp only [decide_eq_false_iff_not]; omega]
              clear hv1
              go_wp2_with fail
              go_ret
              exact ⟨grown_set GU1.out _ _, by rw [HF.out]; rfl⟩
            · rw [show (decide (1 ≤ x) && decide (x ≤ 999999999)) = true by rw [Bool.and_eq_true, decide_eq_true_eq, decide_eq_true_eq]; omega]
              have HV1 := Lib.hid hv1
              clear hv1
              have R1 : Hid ((u1.setCell ⟨rb, 3, none⟩ (.int .i64 x)).heap[rb]? = some (.cells (rdA (some ⟨b1, o1, none⟩) n c p1 (x1 - 48) x 0 1) 54 (0, 0))) := rd_set3 RU1.out
              have G1 : Hid (w.grownBy (u1.setCell ⟨rb, 3, none⟩ (.int .i64 x)) (some rb)) := grown_set GU1.out _ _
              go_wp2_with fail
              generalize u1.setCell ⟨rb, 3, none⟩ (.int .i64 x) = W2 at R1 G1 ⊢
              refine (pbehind_any (a := p1) W2 R1.out (SI.kept HAA.out G1.out HOF.out) HWF.out (Off.kept HOF.out G1.out) hnc (Vars.grown HVV.out G1.out hrb) hrb (by have := HLEN.out; omega)).mono ?_
              rintro e u2 ⟨hg, p2, hr, hres⟩
              have GU2 : Hid (w.grownBy u2 (some rb)) := grown_trans G1.out hg
              have RU2 := Lib.hid hr
              clear hg hr
              have hf2 := frozen6 RU2.out 4
              obtain ⟨s0, s1, s2, s3, s4, s5⟩ := cells6 RU2.out
              cases hB2 : behindM l p1 with
              | none =>
                rw [hB2] at hres
                obtain rfl := hres
                have HF : Hid (headM l = none) := by show _ = _; rw [HH.out, HB1.out]; simp only []; rw [if_neg (Int.not_lt.2 HV1.out), hB2]
                clear hB2
                go_wp2_with fail
                go_ret
                exact ⟨grown_set GU2.out _ _, by rw [HF.out]; rfl⟩
              | some va =>
                obtain ⟨y, q2⟩ := va
                rw [hB2] at hres
                obtain ⟨rfl, rfl⟩ := hres
                have hab2 := behindM_bd hB2 (by have := HLEN.out; omega)
                have HB2 := Lib.hid hB2
                clear hB2
                by_cases hv2 : y < 1
                · have HF : Hid (headM l = none) := by show _ = _; rw [HH.out, HB1.out]; simp only []; rw [if_neg (Int.not_lt.2 HV1.out), HB2.out]; simp only []; rw [if_pos hv2]
                  rw [show (decide (1 ≤ y) && decide (y ≤ 999999999)) = false by rw [Bool.and_eq_false_iff]; simp only [decide_eq_false_iff_not]; omega]
                  clear hv2
                  go_wp2_with fail
                  go_ret
                  exact ⟨grown_set GU2.out _ _, by rw [HF.out]; rfl⟩
                · rw [show (decide (1 ≤ y) && decide (y ≤ 999999999)) = true by rw [Bool.and_eq_true, decide_eq_true_eq, decide_eq_true_eq]; omega]
                  have HV2 := Lib.hid hv2
                  clear hv2
                  have R2 : Hid ((u2.setCell ⟨rb, 4, none⟩ (.int .i64 y)).heap[rb]? = some (.cells (rdA (some ⟨b1, o1, none⟩) n c p2 (x1 - 48) x y 1) 54 (0, 0))) := rd_set4 RU2.out
                  have G2 : Hid (w.grownBy (u2.setCell ⟨rb, 4, none⟩ (.int .i64 y)) (some rb)) := grown_set GU2.out _ _
                  have HT : Hid (headM l = if x1 = 49 ∨ x1 = 52 then some ⟨x1 - 48, x, y, 1, p2⟩ else match behindM l p2 with | none => none | some (t, g) => if t < 1 ∨ 65535 < t then none else some ⟨x1 - 48, x, y, t, g⟩) := by show _ = _; rw [HH.out, HB1.out]; simp only []; rw [if_neg (Int.not_lt.2 HV1.out), HB2.out]; simp only []; rw [if_neg HV2.out]
                  obtain ⟨z0, z1, z2, z3, z4, z5⟩ := cells6 R2.out
                  go_upto_region 10 with (fail)
                  generalize u2.setCell ⟨rb, 4, none⟩ (.int .i64 y) = W3 at R2 G2 z0 z1 z2 z3 z4 z5 ⊢
                  by_cases hk : x1 = 49 ∨ x1 = 52
                  · have hm : (x1 - 48) % 3 = 1 := by rcases hk with rfl | rfl <;> decide
                    have k1 : ((x1 - 48) % 3 != 1) = false := by rw [hm]; rfl
                    have HF : Hid (headM l = some ⟨x1 - 48, x, y, 1, p2⟩) := by show _ = _; rw [HT.out, if_pos hk]
                    clear hk hm
                    go_wp2_with fail
                    go_ret
                    exact ⟨G2.out, by rw [HF.out]; exact ⟨R2.out, rfl⟩⟩
                  · have hm : (x1 - 48) % 3 ≠ 1 := by
                      have hx : x1 = 50 ∨ x1 = 51 ∨ x1 = 53 ∨ x1 = 54 := by omega
                      rcases hx with rfl | rfl | rfl | rfl <;> decide
                    have k1 : ((x1 - 48) % 3 != 1) = true := by simpa using hm
                    have HT2 : Hid (headM l = match behindM l p2 with | none => none | some (t, g) => if t < 1 ∨ 65535 < t then none else some ⟨x1 - 48, x, y, t, g⟩) := by show _ = _; rw [HT.out, if_neg hk]
                    clear HT hk hm
                    go_wp2_with fail
                    refine (pbehind_any (a := p2) W3 R2.out (SI.kept HAA.out G2.out HOF.out) HWF.out (Off.kept HOF.out G2.out) hnc (Vars.grown HVV.out G2.out hrb) hrb (by have := HLEN.out; omega)).mono ?_
                    rintro e u3 ⟨hg, p3, hr, hres⟩
                    have GU3 : Hid (w.grownBy u3 (some rb)) := grown_trans G2.out hg
                    have RU3 := Lib.hid hr
                    clear hg hr
                    have hf3 := frozen6 RU3.out 5
                    obtain ⟨s0, s1, s2, s3, s4, s5⟩ := cells6 RU3.out
                    cases hB3 : behindM l p2 with
                    | none =>
                      rw [hB3] at hres
                      obtain rfl := hres
                      have HF : Hid (headM l = none) := by show _ = _; rw [HT2.out, hB3]
                      clear hB3
                      go_wp2_with fail
                      go_ret
                      exact ⟨grown_set GU3.out _ _, by rw [HF.out]; rfl⟩
                    | some va =>
                      obtain ⟨t, q3⟩ := va
                      rw [hB3] at hres
                      obtain ⟨rfl, rfl⟩ := hres
                      have hab3 := behindM_bd hB3 (by have := HLEN.out; omega)
                      have HB3 := Lib.hid hB3
                      clear hB3
                      by_cases hv3 : t < 1 ∨ 65535 < t
                      · have HF : Hid (headM l = none) := by show _ = _; rw [HT2.out, HB3.out]; simp only []; rw [if_pos hv3]
                        rw [show (decide (1 ≤ t) && decide (t ≤ 65535)) = false by rw [Bool.and_eq_false_iff]; simp only [decide_eq_false_iff_not]; omega]
                        clear hv3
                        go_wp2_with fail
                        go_ret
                        exact ⟨grown_set GU3.out _ _, by rw [HF.out]; rfl⟩
                      · rw [show (decide (1 ≤ t) && decide (t ≤ 65535)) = true by rw [Bool.and_eq_true, decide_eq_true_eq, decide_eq_true_eq]; omega]
                        have HV3 := Lib.hid hv3
                        clear hv3
                        have R3 : Hid ((u3.setCell ⟨rb, 5, none⟩ (.int .i64 t)).heap[rb]? = some (.cells (rdA (some ⟨b1, o1, none⟩) n c p3 (x1 - 48) x y t) 54 (0, 0))) := rd_set5 RU3.out
                        have G3 : Hid (w.grownBy (u3.setCell ⟨rb, 5, none⟩ (.int .i64 t)) (some rb)) := grown_set GU3.out _ _
                        have HF : Hid (headM l = some ⟨x1 - 48, x, y, t, p3⟩) := by show _ = _; rw [HT2.out, HB3.out]; simp only []; rw [if_neg HV3.out]
                        go_wp2_with fail
                        go_ret
                        exact ⟨G3.out, by rw [HF.out]; exact ⟨R3.out, rfl⟩⟩
--head>
    · have d2 : (x0 != 80) = true := by simp [h80]
      have HH : Hid (headM l = none) := by show _ = _; unfold headM; rw [if_pos (.inr (.inl (by rw [hx0]; exact h80)))]
      clear hx0 hx1
      go_enter Tryd.func21, Tryd.ntmps21
      go_wp2
      go_ret
      exact ⟨World.grownBy.refl _ _, by rw [HH.out]; rfl⟩
end Go.Proofs.YtbmlopklhgladaaDoor.Pnm
