/-
  The walks of the laws PnmReads, PnmWrites.
-/
import Derived.Test.YtbmlopklhgladaaDoorZG15
import Derived.Test.YtbmlopklhgladaaDoorZG5
set_option linter.unusedVariables false
set_option linter.unusedSimpArgs false
namespace Go.Proofs.YtbmlopklhgladaaDoor.Pnm
open Go.RowKit K Ian Ard

/-- n bytes of new memory -/
def OwnP (w : World) (n : Nat) (b : List Int) (e : Ending) (w' : World) : Prop :=
  ∃ A' c', e = .returned (.slice A' n c') ∧ w'.ownsRow w.heap.size 5 1 (.slice A' n c') n (b.map (.int .u8)) ∧ Below w.heap.size w w' ∧ n ≤ c'
theorem own_cap {w : World} {base e sz n c : Nat} {A : Option Addr} {xs : List Value} (h : w.ownsRow base e sz (.slice A n c) n xs) : n ≤ c := by
  rcases h.2 with ⟨hv, rfl⟩ | ⟨g, cap, cur, hv, _, _, hn, _⟩
  · have := h.1; simp at this; omega
  · injection hv with _ _ hc; omega
set_option maxHeartbeats 400000 in
theorem ownb_any {A : Option Addr} {n c : Nat} {l : List Int} (w : World) (HA : SI w .u8 A n l) : Calls Tryd.prog 10 #[.slice A n c] w (OwnP w n l) := by
  have hbig := HA.bigb
  have hlen := Lib.hid HA.len
  go_enter Tryd.func10, Tryd.ntmps10
  go_wp2_with (at_builtin; refine wpList_append_sl _ rfl (.tmp 3) (.tmp 4) _ rfl w.heap.size 5 1 1 _ Tryd.underlying22 infoU8 rfl (by omega) (.slice (some ⟨w.heap.size, 0, none⟩) 0 0) 0 [] rfl ?c1 A n c (l.map (.int .u8)) rfl ?c2 ?c3 (ints_oneCell .u8 _) ?c4 ?c5 ?c6 ?_)
  case c1 => exact World.ownsRow_made w #[] 0 (Nat.le_refl _) (by simp [maxLen]) rfl
  case c2 => simp [hlen.out]
  case c3 => exact HA.sl.alloc _
  case c4 => unfold maxLen; omega
  case c5 => omega
  case c6 => simp
  intro v' w1 hown hg _
  obtain ⟨A', c', rfl⟩ := own_form hown
  have hb : Below w.heap.size w w1 := ((Below.refl w.heap.size w).alloc (Nat.le_refl _) _).grown hg (by simp) (fun k hk => by simp [Value.ownBlock] at hk; omega)
  have hc := Lib.hid (own_cap hown)
  go_wp2
  go_ret
  exact ⟨A', c', rfl, hown, hb, hc.out⟩
set_option maxHeartbeats 1000000 in
theorem bsame_any {A B : Option Addr} {n c m d : Nat} {l r : List Int} (w : World) (HA : SI w .u8 A n l) (HB : SI w .u8 B m r) :
    Calls Tryd.prog 16 #[.slice A n c, .slice B m d] w fun e w' => e = .returned (.bool (decide (l = r))) ∧ ∃ k, w' = w.drewN k := by
  have ha := HA.bigb
  have hb := HB.bigb
  have la := Lib.hid HA.len
  have lb := Lib.hid HB.len
  generalize hres : decide (l = r) = res
  have HRS := Lib.hid hres
  clear hres
  by_cases hnm : n = m
  · subst hnm
    have hne : ((n : Int) != (n : Int)) = false := by simp
    go_enter Tryd.func16, Tryd.ntmps16
    go_wp2
    go_loopw [5] (fun i wr => ∃ k q : Nat, k ≤ n ∧ i = .int .i64 k ∧ w.drewN q = wr ∧ Hid (l.take k = r.take k)) (fun i _ => n - (intOf i).toNat)
    case atStart => exact ⟨0, 0, by omega, rfl, rfl, rfl⟩
    case round =>
      obtain ⟨k, q, hk, rfl, rfl, HK⟩ := hrel
      by_cases hlt : k < n
      · obtain ⟨b1, o1, x, rfl, hc1, hx, _⟩ := HA.cells hlt
        obtain ⟨b2, o2, y, rfl, hc2, hy, _⟩ := HB.cells hlt
        have hd : decide ((k : Int) < (n : Int)) = true := by simp; omega
        by_cases hxy : x = y
        · subst hxy
          have hb : (x != x) = false := by simp
          have hs : Hid (l.take (k+1) = r.take (k+1)) := by show _ = _; rw [take_snoc hx.out, take_snoc hy.out, HK.out]
          go_wp2
          go_quiet (fail)
          go_wp2
          go_roundw
          case rel => exact ⟨k + 1, _, by omega, by go_num, rfl, hs⟩
          case measure => simp [intOf]; omega
        · have hb : (x != y) = true := by simp [hxy]
          have HXY := Lib.hid hxy
          clear hxy
          go_wp2
          go_quiet (fail)
          go_wp2
          go_ret
          have hlr : l ≠ r := fun e => by
            have h1 := hx.out
            rw [e, hy.out] at h1
            injection h1 with h1
            exact HXY.out h1.symm
          rw [← HRS.out, decide_eq_false hlr]
          exact ⟨rfl, q + nq, World.drewN_drewN _ _ _⟩
      · obtain rfl : k = n := by omega
        have hd : decide ((k : Int) < (k : Int)) = false := by simp
        have hlr : l = r := by
          have := HK.out
          rwa [List.take_of_length_le (by rw [la.out]; omega), List.take_of_length_le (by rw [lb.out]; omega)] at this
        have HLR := Lib.hid hlr
        clear hlr
        go_wp2
        go_ret
        rw [← HRS.out, decide_eq_true HLR.out]
        exact ⟨rfl, q, rfl⟩
  · have hne : ((n : Int) != (m : Int)) = true := by simp; omega
    go_enter Tryd.func16, Tryd.ntmps16
    go_wp2
    go_ret
    have hlr : l ≠ r := fun e => by have := la.out; rw [e, lb.out] at this; omega
    rw [← HRS.out, decide_eq_false hlr]
    exact ⟨rfl, 0, rfl⟩
theorem decM_len (l : List Int) (most : Int) : (decM l most).pix.length ≤ 262144 := by
  unfold decM
  split
  · simp
  · cases hh : headM l with
    | none => simp
    | some h =>
      simp only
      by_cases hg : greatB h.w h.h most = true
      · rw [if_pos hg]; simp
      · rw [if_neg hg]
        have hb := headM_bd hh
        have hg2 : greatB h.w h.h most = false := by simpa using hg
        unfold greatB at hg2
        have hg3 := of_decide_eq_false hg2
        cases hs : smpsM l h (eachOf h.kind * (h.w.toNat * h.h.toNat)) with
        | none => simp
        | some L =>
          simp only
          rw [pixM_len]
          obtain ⟨W, hW⟩ := Int.eq_ofNat_of_zero_le (show 0 ≤ h.w by omega)
          obtain ⟨H, hH⟩ := Int.eq_ofNat_of_zero_le (show 0 ≤ h.h by omega)
          rw [hW, hH] at hg3
          rw [hW, hH, Int.toNat_natCast, Int.toNat_natCast]
          have e : (W : Int) * (H : Int) = ((W * H : Nat) : Int) := by push_cast; rfl
          omega
set_option maxRecDepth 20000 in
set_option maxHeartbeats 4000000 in
theorem pnmReads_any {A : Option Addr} {n c : Nat} {l : List Int} {most : Int} (w : World) (HA : SI w .u8 A n l) (hwf : ∀ x ∈ l, 0 ≤ x ∧ x < 256) (HV : Vars w) :
    Calls Tryd.prog 3 #[.slice A n c, .int .i64 most] w (YesP w) := by
  have HWK := Lib.hid (wakes_any w HV)
  have HAA := Lib.hid HA
  have HVV := Lib.hid HV
  have HWF := Lib.hid hwf
  clear HA HV hwf
  go_enter Tryd.func3, Tryd.ntmps3
  go_wp2_with fail
  refine HWK.out.mono ?_
  rintro e w1 ⟨rfl, hb1⟩
  have HB1 := Lib.hid hb1
  clear hb1 HWK
  go_wp2_with fail
  refine (ownb_any w1 (HAA.out.below HB1.out (Nat.le_refl _))).mono ?_
  rintro e w2 ⟨A2, c2, rfl, ho2, hb2, hc2⟩
  have HB2 : Hid (Below w.heap.size w w2) := HB1.out.trans (hb2.mono HB1.out.size)
  have hs2 : SI w2 .u8 A2 n l := SI.of_own ho2 (by have := HAA.out.bigb; simp only [kb]; omega)
  have HPD := Lib.hid (pdecode_any (most := most) w2 hs2 HWF.out hc2 (fun a e => (ho2.lt a.block (by
    rcases ho2.2 with ⟨hv, -⟩ | ⟨g, cap, cur, hv, -⟩
    · injection hv with e1; rw [e1] at e; cases e
    · injection hv with e1; rw [e1] at e; injection e with e; rw [e1, ← e]; rfl)).2) (HVV.out.below HB2.out (Nat.le_refl _)))
  clear hb2 hs2 ho2 hc2 HB1
  have HDL := Lib.hid (decM_len l most)
  obtain ⟨d, hd⟩ : ∃ d, decM l most = d := ⟨_, rfl⟩
  rw [hd] at HPD HDL
  have HDD := Lib.hid hd
  clear hd
  go_wp2_with fail
  refine HPD.out.mono ?_
  rintro e w3 ⟨A3, c3, rfl, ho3, hb3⟩
  have HS3 := Lib.hid (SI.of_own ho3 (by have := HDL.out; simp only [kb]; omega) : SI w3 .u16 A3 d.pix.length d.pix)
  have HB3 : Hid (Below w.heap.size w w3) := HB2.out.trans (hb3.mono HB2.out.size)
  clear ho3 hb3 HB2 HPD
  have hm3 : (w3.alloc (.cells #[.int .i64 d.w, .int .i64 d.h, .slice A3 d.pix.length c3] 26)).heap[w3.heap.size]? = some (.cells #[.int .i64 d.w, .int .i64 d.h, .slice A3 d.pix.length c3] 26 (0, 0)) := heap_alloc_new w3 _
  have hb4 : Below w3.heap.size w3 (w3.alloc (.cells #[.int .i64 d.w, .int .i64 d.h, .slice A3 d.pix.length c3] 26)) := (Below.refl _ w3).alloc (Nat.le_refl _) _
  go_upto_region 4 with (fail)
  generalize w3.alloc (.cells #[.int .i64 d.w, .int .i64 d.h, .slice A3 d.pix.length c3] 26) = X1 at hm3 hb4 ⊢
  obtain ⟨mb, hmb⟩ : ∃ mb, w3.heap.size = mb := ⟨_, rfl⟩
  have HB4 : Hid (Below w.heap.size w X1) := HB3.out.trans (hb4.mono HB3.out.size)
  have HS4 := Lib.hid (HS3.out.below hb4 (Nat.le_refl _))
  rw [hmb] at hm3 ⊢
  have HM4 := Lib.hid hm3
  clear hm3 hb4 hmb HS3 HB3
  have HRD := Lib.hid (rdecode_any (c := c) (most := most) X1 (HAA.out.below HB4.out (Nat.le_refl _)) HWF.out)
  rw [HDD.out] at HRD
  go_wp2_with fail
  refine HRD.out.mono ?_
  rintro e w5 ⟨A5, c5, rfl, ho5, hb5⟩
  have hs5 : SI w5 .u16 A5 d.pix.length d.pix := SI.of_own ho5 (by have := HDL.out; simp only [kb]; omega)
  have hm6 : (w5.alloc (.cells #[.int .i64 d.w, .int .i64 d.h, .slice A5 d.pix.length c5] 26)).heap[w5.heap.size]? = some (.cells #[.int .i64 d.w, .int .i64 d.h, .slice A5 d.pix.length c5] 26 (0, 0)) := heap_alloc_new w5 _
  have hb6 : Below w5.heap.size w5 (w5.alloc (.cells #[.int .i64 d.w, .int .i64 d.h, .slice A5 d.pix.length c5] 26)) := (Below.refl _ w5).alloc (Nat.le_refl _) _
  go_upto_region 5 with (fail)
  generalize w5.alloc (.cells #[.int .i64 d.w, .int .i64 d.h, .slice A5 d.pix.length c5] 26) = X2 at hm6 hb6 ⊢
  have hx : Below X1.heap.size X1 X2 := hb5.trans (hb6.mono hb5.size)
  have HB6 : Hid (Below w.heap.size w X2) := HB4.out.trans (hx.mono HB4.out.size)
  have HS6 := Lib.hid (HS4.out.below hx (Nat.le_refl _))
  have HT6 := Lib.hid (hs5.below hb6 (Nat.le_refl _))
  have hm4 : X2.heap[mb]? = some (.cells #[.int .i64 d.w, .int .i64 d.h, .slice A3 d.pix.length c3] 26 (0, 0)) := (hx.block _ (Array.getElem?_eq_some_iff.1 HM4.out).1).trans HM4.out
  have q0 := row_cell hm4 0
  have q1 := row_cell hm4 1
  have q2 := row_cell hm4 2
  have r0 := row_cell hm6 0
  have r1 := row_cell hm6 1
  have r2 := row_cell hm6 2
  have HSM := Lib.hid (Ard.same_any (W := d.w) (H := d.h) (W2 := d.w) (H2 := d.h) (pc := c3) (pc2 := c5) X2 HS6.out HT6.out)
  have hsame : sameB d.w d.h d.pix d.w d.h d.pix = true := decide_eq_true ⟨rfl, rfl, rfl⟩
  rw [hsame] at HSM
  clear hm4 hm6 hx hb6 hs5 ho5 hb5 HS4 HM4 HB4 hsame
  go_wp2_with fail
  refine HSM.out.mono ?_
  rintro e w7 ⟨rfl, hb7⟩
  have HB7 : Hid (Below w.heap.size w w7) := HB6.out.trans (hb7.mono HB6.out.size)
  have eqe : (d.err == d.err) = true := by simp
  clear hb7
  go_wp2_with fail
  go_ret
  exact ⟨rfl, HB7.out⟩
theorem good_nat {W H : Int} {pn : Nat} (h : GoodP W H pn) : ∃ W' H' : Nat, W = W' ∧ H = H' ∧ 1 ≤ W' ∧ 1 ≤ H' ∧ W' ≤ 4096 ∧ H' ≤ 4096 ∧ W' * H' ≤ 65536 ∧ pn = 4 * W' * H' := by
  unfold GoodP FitsP at h
  obtain ⟨W', rfl⟩ := Int.eq_ofNat_of_zero_le (show 0 ≤ W by omega)
  obtain ⟨H', rfl⟩ := Int.eq_ofNat_of_zero_le (show 0 ≤ H by omega)
  have e : (W' : Int) * (H' : Int) = ((W' * H' : Nat) : Int) := by push_cast; rfl
  have e4 : 4 * (W' : Int) * (H' : Int) = ((4 * W' * H' : Nat) : Int) := by push_cast; rfl
  exact ⟨W', H', rfl, rfl, by omega, by omega, by omega, by omega, by omega, by omega⟩
theorem si_some {w : World} {P : Option Addr} {n : Nat} {l : List Int} {k : IntKind} (h : SI w k P n l) (hn : 0 < n) : ∃ b o, P = some ⟨b, o, none⟩ := by
  obtain ⟨b, o, x, e, -⟩ := h.cells hn
  exact ⟨b, o, e⟩
theorem pencode_any {W H kind top : Int} {P : Option Addr} {pn pc : Nat} {pix : List Int} (w : World) (HP : SI w .u16 P pn pix) (hwf : ∀ x ∈ pix, 0 ≤ x ∧ x < 65536) (hpc : pn ≤ pc) (HV : Vars w) :
    Calls Tryd.prog 13 #[.agg #[.int .i64 W, .int .i64 H, .slice P pn pc], .int .i64 kind, .int .i64 top] w (EncP w (encM W H pn pix kind top)) := by
  by_cases hg : GoodP W H pn
  · obtain ⟨W', H', rfl, rfl, h1, h2, -, -, -, h6⟩ := good_nat hg
    have h0 : 0 < pn := by
      rw [h6]; exact Nat.mul_pos (Nat.mul_pos (by omega) (by omega)) (by omega)
    obtain ⟨b, o, rfl⟩ := si_some HP h0
    by_cases ho : kind < 1 ∨ 6 < kind ∨ top < 1 ∨ 65535 < top
    · exact pencode_out w HP hpc hg ho
    · exact pencode_in w HP hwf hpc hg (by omega) (by omega) (by omega) (by omega) HV
  · exact pencode_bad w (by have := HP.sz; simp only [kb] at this; omega) hg
theorem rencode_any {W H kind top : Int} {P : Option Addr} {pn pc : Nat} {pix : List Int} (w : World) (HP : SI w .u16 P pn pix) (hwf : ∀ x ∈ pix, 0 ≤ x ∧ x < 65536) (HV : Vars w) :
    Calls Tryd.prog 15 #[.agg #[.int .i64 W, .int .i64 H, .slice P pn pc], .int .i64 kind, .int .i64 top] w (REncP w (encM W H pn pix kind top)) := by
  have hpn : pn ≤ 140737488351232 := by have := HP.sz; simp only [kb] at this; omega
  by_cases hg : GoodP W H pn
  · obtain ⟨W', H', rfl, rfl, -⟩ := good_nat hg
    by_cases ho : kind < 1 ∨ 6 < kind ∨ top < 1 ∨ 65535 < top
    · exact rencode_out w hpn hg ho
    · exact rencode_in w HP hwf hg (by omega) (by omega) (by omega) (by omega) HV
  · exact rencode_bad w hpn hg
theorem encM_len {W H kind top : Int} {pn : Nat} {pix : List Int} (hwf : ∀ x ∈ pix, 0 ≤ x ∧ x < 65536) : (encM W H pn pix kind top).bytes.length ≤ 6000000 := by
  unfold encM
  by_cases hg : GoodP W H pn
  · rw [if_neg (by simpa using hg)]
    by_cases ho : kind < 1 ∨ 6 < kind ∨ top < 1 ∨ 65535 < top
    · rw [if_pos ho]; simp
    · rw [if_neg ho]
      obtain ⟨W', H', rfl, rfl, h1, h2, h3, h4, h5, -⟩ := good_nat hg
      simp only [Int.toNat_natCast]
      rw [List.length_append, List.length_append]
      have l1 := headB_len (W := (W' : Int)) (H := (H' : Int)) (kind := kind) (by omega) (by omega) (by omega)
      have l2 := topB_len (kind := kind) (top := top) (by omega) (by omega)
      have l3 := rows_room hwf (kind := kind) (top := top) (y := H') (by omega) (by omega) (Nat.le_refl _) h5 h3 h4
      omega
  · rw [if_pos hg]; simp
set_option maxRecDepth 20000 in
set_option maxHeartbeats 4000000 in
theorem pnmWrites_any {W H kind top : Int} {P : Option Addr} {pn pc : Nat} {pix : List Int} (w : World) (HP : SI w .u16 P pn pix) (hwf : ∀ x ∈ pix, 0 ≤ x ∧ x < 65536) (HV : Vars w) :
    Calls Tryd.prog 4 #[.agg #[.int .i64 W, .int .i64 H, .slice P pn pc], .int .i64 kind, .int .i64 top] w (YesP w) := by
  have hb0 : Below w.heap.size w (w.alloc (.cells #[.int .i64 W, .int .i64 H, .slice P pn pc] 26)) := (Below.refl _ w).alloc (Nat.le_refl _) _
  have hr0 : (w.alloc (.cells #[.int .i64 W, .int .i64 H, .slice P pn pc] 26)).heap[w.heap.size]? = some (.cells #[.int .i64 W, .int .i64 H, .slice P pn pc] 26 (0, 0)) := heap_alloc_new w _
  have HWK := Lib.hid (wakes_any _ (HV.below hb0 (Nat.le_refl _)))
  have HSI := Lib.hid HP
  have HVV := Lib.hid HV
  have HWF := Lib.hid hwf
  have HPL := Lib.hid HP.len
  clear HP HV hwf
  go_enter Tryd.func4, Tryd.ntmps4
  go_upto_region 1 with (fail)
  generalize w.alloc (.cells #[.int .i64 W, .int .i64 H, .slice P pn pc] 26) = W0 at hb0 hr0 HWK ⊢
  have HB0 := Lib.hid hb0
  have HR0 := Lib.hid hr0
  clear hb0 hr0
  go_wp2_with fail
  refine HWK.out.mono ?_
  rintro e w1 ⟨rfl, hb1⟩
  have HB1 : Hid (Below w.heap.size w w1) := HB0.out.trans (hb1.mono HB0.out.size)
  have HR1 : Hid (w1.heap[w.heap.size]? = some (.cells #[.int .i64 W, .int .i64 H, .slice P pn pc] 26 (0, 0))) := (hb1.block _ (Array.getElem?_eq_some_iff.1 HR0.out).1).trans HR0.out
  clear hb1 HWK HB0 HR0
  have q0 := row_cell HR1.out 0
  have q1 := row_cell HR1.out 1
  have q2 := row_cell HR1.out 2
  have HCP := Lib.hid (Ard.copy_any (W := W) (H := H) (pc := pc) w1 (HSI.out.below HB1.out (Nat.le_refl _)))
  go_wp2_with fail
  refine HCP.out.mono ?_
  rintro e w2 ⟨hb2, A2, c2, rfl, ho2, hc2, -⟩
  have HB2 : Hid (Below w.heap.size w w2) := HB1.out.trans (hb2.mono HB1.out.size)
  have HR2 : Hid (w2.heap[w.heap.size]? = some (.cells #[.int .i64 W, .int .i64 H, .slice P pn pc] 26 (0, 0))) := (hb2.block _ (Array.getElem?_eq_some_iff.1 HR1.out).1).trans HR1.out
  have hs2 : SI w2 .u16 A2 pix.length pix := SI.of_own ho2 (by have := HSI.out.sz; have := HPL.out; simp only [kb] at *; omega)
  have HPE := Lib.hid (pencode_any (W := W) (H := H) (kind := kind) (top := top) w2 hs2 HWF.out hc2 (HVV.out.below HB2.out (Nat.le_refl _)))
  have HEL := Lib.hid (encM_len (W := W) (H := H) (pn := pix.length) (kind := kind) (top := top) HWF.out)
  clear hb2 ho2 hc2 hs2 q0 q1 q2 HB1 HR1 HCP
  have HRE : Hid (∀ V, SI V .u16 P pn pix → Vars V → Calls Tryd.prog 15 #[.agg #[.int .i64 W, .int .i64 H, .slice P pn pc], .int .i64 kind, .int .i64 top] V (REncP V (encM W H pix.length pix kind top))) := fun V h1 h2 => by
    have h3 := rencode_any (W := W) (H := H) (kind := kind) (top := top) (pc := pc) V h1 HWF.out h2
    have h4 : pn = pix.length := h1.len.symm
    rw [h4] at h3 ⊢
    exact h3
  obtain ⟨r, hr⟩ : ∃ r, encM W H pix.length pix kind top = r := ⟨_, rfl⟩
  rw [hr] at HPE HEL HRE
  clear hr
  go_wp2_with fail
  refine HPE.out.mono ?_
  rintro e w3 ⟨A3, c3, rfl, ho3, hb3⟩
  have HB3 : Hid (Below w.heap.size w w3) := HB2.out.trans (hb3.mono HB2.out.size)
  have HR3 : Hid (w3.heap[w.heap.size]? = some (.cells #[.int .i64 W, .int .i64 H, .slice P pn pc] 26 (0, 0))) := (hb3.block _ (Array.getElem?_eq_some_iff.1 HR2.out).1).trans HR2.out
  have HS3 := Lib.hid (SI.of_own ho3 (by have := HEL.out; simp only [kb]; omega) : SI w3 .u8 A3 r.bytes.length r.bytes)
  clear ho3 hb3 HB2 HR2 HPE
  have q0 := row_cell HR3.out 0
  have q1 := row_cell HR3.out 1
  have q2 := row_cell HR3.out 2
  have HRC := Lib.hid (HRE.out w3 (HSI.out.below HB3.out (Nat.le_refl _)) (HVV.out.below HB3.out (Nat.le_refl _)))
  go_wp2_with fail
  refine HRC.out.mono ?_
  rintro e w4 ⟨A4, c4, rfl, ho4, hb4⟩
  have HB4 : Hid (Below w.heap.size w w4) := HB3.out.trans (hb4.mono HB3.out.size)
  have HS4 := Lib.hid (HS3.out.below hb4 (Nat.le_refl _))
  have HT4 : Hid (SI w4 .u8 A4 r.bytes.length r.bytes) := ⟨rfl, by have := HEL.out; simp only [kb]; omega, ho4.sl⟩
  have HSM := Lib.hid (bsame_any (c := c3) (d := c4) w4 HS4.out HT4.out)
  rw [decide_eq_true (rfl : r.bytes = r.bytes)] at HSM
  clear ho4 hb4 HS3 HR3 q0 q1 q2 HRC HRE
  have eqe : (r.err == r.err) = true := by simp
  go_wp2_with fail
  refine HSM.out.mono ?_
  rintro e w5 ⟨rfl, kq, rfl⟩
  have HB5 : Hid (Below w.heap.size w (w4.drewN kq)) := below_drewN HB4.out kq
  generalize w4.drewN kq = w5 at HB5 ⊢
  go_wp2_with fail
  go_ret
  exact ⟨rfl, HB5.out⟩
end Go.Proofs.YtbmlopklhgladaaDoor.Pnm
