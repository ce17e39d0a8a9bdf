/-
  Texts of this claim, joined by program (EncH, WkP). Walks: the reference's Encode.
-/
import Derived.Test.YtbmlopklhgladaaDoorZG11
import Derived.Test.YtbmlopklhgladaaDoorZG14
import Derived.Lib.SlBytesConst
set_option linter.unusedVariables false
set_option linter.unusedSimpArgs false
namespace Go.Proofs.YtbmlopklhgladaaDoor.Pnm
open Go.RowKit K Ian Ard

/-- what the reference answers -/
def REncP (w : World) (r : Enc) (e : Ending) (w' : World) : Prop :=
  ∃ A c, e = .returned (.tuple #[.slice A r.bytes.length c, .int .i64 r.err]) ∧ OwnM w' w.heap.size 5 A r.bytes.length c (r.bytes.map (.int .u8)) ∧ Below w.heap.size w w'
theorem ownM_nil (w : World) (base : Nat) (e : TypeId) : OwnM w base e none 0 0 [] := ⟨rfl, .inl ⟨rfl, rfl, rfl⟩⟩
set_option maxRecDepth 100000 in
set_option maxHeartbeats 2000000 in
theorem rencode_bad {W H kind top : Int} {P : Option Addr} {pn pc : Nat} {pix : List Int} (w : World) (hpn : pn ≤ 140737488351232) (hg : ¬ GoodP W H pn) :
    Calls Tryd.prog 15 #[.agg #[.int .i64 W, .int .i64 H, .slice P pn pc], .int .i64 kind, .int .i64 top] w (REncP w (encM W H pn pix kind top)) := by
  have HD : Hid (encM W H pn pix kind top = ⟨6, []⟩) := by show _ = _; unfold encM; rw [if_pos hg]
  have HG : Hid (∀ V, Calls Tryd.prog 17 #[.agg #[.int .i64 W, .int .i64 H, .slice P pn pc]] V (TestP V false)) := fun V => by have := rgood_any (W := W) (H := H) (P := P) (pc := pc) V hpn; rwa [decide_eq_false hg] at this
  have HB : Hid (Below w.heap.size w (w.alloc (.cells #[.int .i64 W, .int .i64 H, .slice P pn pc] 26))) := (Below.refl _ w).alloc (Nat.le_refl _) _
  go_enter Tryd.func15, Tryd.ntmps15
  go_wp2_with (go_at_call 17; refine (HG.out _).mono ?_; rintro e w' ⟨rfl, hb⟩)
  go_ret2
  rw [HD.out]
  exact ⟨none, 0, rfl, ownM_nil _ _ _, HB.out.trans (hb.mono HB.out.size)⟩
set_option maxRecDepth 100000 in
set_option maxHeartbeats 2000000 in
theorem rencode_out {W H kind top : Int} {P : Option Addr} {pn pc : Nat} {pix : List Int} (w : World) (hpn : pn ≤ 140737488351232) (hg : GoodP W H pn) (ho : kind < 1 ∨ 6 < kind ∨ top < 1 ∨ 65535 < top) :
    Calls Tryd.prog 15 #[.agg #[.int .i64 W, .int .i64 H, .slice P pn pc], .int .i64 kind, .int .i64 top] w (REncP w (encM W H pn pix kind top)) := by
  have HD : Hid (encM W H pn pix kind top = ⟨2, []⟩) := by show _ = _; unfold encM; rw [if_neg (by simpa using hg), if_pos ho]
  have HG : Hid (∀ V, Calls Tryd.prog 17 #[.agg #[.int .i64 W, .int .i64 H, .slice P pn pc]] V (TestP V true)) := fun V => by have := rgood_any (W := W) (H := H) (P := P) (pc := pc) V hpn; rwa [decide_eq_true hg] at this
  have HB : Hid (Below w.heap.size w (w.alloc (.cells #[.int .i64 W, .int .i64 H, .slice P pn pc] 26))) := (Below.refl _ w).alloc (Nat.le_refl _) _
  go_enter Tryd.func15, Tryd.ntmps15
  go_wp2_with fail
  refine (HG.out _).mono ?_
  rintro e w1 ⟨rfl, hb⟩
  have HFIN : Hid (REncP w (encM W H pn pix kind top) (.returned (.tuple #[.slice none 0 0, .int .i64 2])) w1) := by show REncP _ _ _ _; rw [HD.out]; exact ⟨none, 0, rfl, ownM_nil _ _ _, HB.out.trans (hb.mono HB.out.size)⟩
  clear HD HB hb HG
  by_cases h1 : kind < 1
  · have d1 : decide (kind < 1) = true := decide_eq_true h1
    clear ho h1
    go_wp2_with fail
    go_ret2
    exact HFIN.out
  have d1 : decide (kind < 1) = false := decide_eq_false h1
  by_cases h2 : 6 < kind
  · have d2 : decide (6 < kind) = true := decide_eq_true h2
    clear ho h1 h2
    go_wp2_with fail
    go_ret2
    exact HFIN.out
  have d2 : decide (6 < kind) = false := decide_eq_false h2
  by_cases h3 : top < 1
  · have d3 : decide (top < 1) = true := decide_eq_true h3
    clear ho h1 h2 h3
    go_wp2_with fail
    go_ret2
    exact HFIN.out
  have d3 : decide (top < 1) = false := decide_eq_false h3
  have d4 : decide (65535 < top) = true := decide_eq_true (by omega)
  clear ho h1 h2 h3
  go_wp2_with fail
  go_ret2
  exact HFIN.out
theorem rowB_pos {pix : List Int} {W : Nat} {kind top : Int} {y : Nat} (hW : 1 ≤ W) : 1 ≤ (rowB pix W kind top y).length := by
  have h1 := (rowS_len pix W kind top y W).1
  unfold rowB
  obtain ⟨l, hl⟩ : ∃ l, rowS pix W kind top y W = l := ⟨_, rfl⟩
  rw [hl] at h1 ⊢
  rw [lineI_pre]
  unfold preI
  split
  · rw [List.length_append]; simp
  · split
    · rw [List.length_append, packL_len]; omega
    · rw [List.length_append]
      obtain ⟨n, hn⟩ : ∃ n, l.length = n + 1 := ⟨l.length - 1, by omega⟩
      rw [hn, valsL, List.length_append, List.length_singleton]; omega
theorem byteCells_app (a b : ByteArray) : Lib.byteCells (a ++ b).data.toList = Lib.byteCells a.data.toList ++ Lib.byteCells b.data.toList := by
  unfold Lib.byteCells
  rw [ByteArray.data_append, Array.toList_append, List.map_append]
theorem cells_size {s : ByteArray} {xs : List Int} (h : Lib.byteCells s.data.toList = xs.map (.int .u8)) : s.size = xs.length := by
  have := congrArg List.length h
  unfold Lib.byteCells at this
  rw [List.length_map, List.length_map, Array.length_toList] at this
  exact this
set_option maxRecDepth 100000 in
set_option maxHeartbeats 4000000 in
theorem rencode_in {W H pn pc : Nat} {P : Option Addr} {kind top : Int} {pix : List Int} (w : World) (HP : SI w .u16 P pn pix) (hwf : ∀ x ∈ pix, 0 ≤ x ∧ x < 65536) (hg : GoodP W H pn) (k1 : 1 ≤ kind) (k2 : kind ≤ 6) (t1 : 1 ≤ top) (t2 : top ≤ 65535) (HV : Vars w) :
    Calls Tryd.prog 15 #[.agg #[.int .i64 W, .int .i64 H, .slice P pn pc], .int .i64 kind, .int .i64 top] w (REncP w (encM W H pn pix kind top)) := by
  have hpn : pn ≤ 140737488351232 := by have := HP.sz; simp only [kb] at this; omega
  have HD : Hid (encM W H pn pix kind top = ⟨0, headB W H kind ++ topB kind top ++ rowsB pix W kind top H⟩) := by show _ = _; unfold encM; rw [if_neg (by simpa using hg), if_neg (by omega)]; rfl
  have HG : Hid (∀ V, Calls Tryd.prog 17 #[.agg #[.int .i64 W, .int .i64 H, .slice P pn pc]] V (TestP V true)) := fun V => by have := rgood_any (W := W) (H := H) (P := P) (pc := pc) V hpn; rwa [decide_eq_true hg] at this
  have hb0 : Below w.heap.size w (w.alloc (.cells #[.int .i64 W, .int .i64 H, .slice P pn pc] 26)) := (Below.refl _ w).alloc (Nat.le_refl _) _
  have hr0 : (w.alloc (.cells #[.int .i64 W, .int .i64 H, .slice P pn pc] 26)).heap[w.heap.size]? = some (.cells #[.int .i64 W, .int .i64 H, .slice P pn pc] 26 (0, 0)) := heap_alloc_new w _
  have hs0 : (w.alloc (.cells #[.int .i64 W, .int .i64 H, .slice P pn pc] 26)).heap.size = w.heap.size + 1 := World.size_alloc _ _
  have HGP := Lib.hid hg
  have HSI := Lib.hid HP
  have HVV := Lib.hid HV
  have HWF := Lib.hid hwf
  have hvb : vb ≤ w.heap.size := HV.len
  have hWH2 : 1 ≤ W ∧ 1 ≤ H ∧ W ≤ 4096 ∧ H ≤ 4096 ∧ W * H ≤ 65536 ∧ pn = 4 * W * H := by
    have := hg
    unfold GoodP FitsP at this
    have e : (W : Int) * (H : Int) = ((W * H : Nat) : Int) := by push_cast; rfl
    have e4 : 4 * (W : Int) * (H : Int) = ((4 * W * H : Nat) : Int) := by push_cast; rfl
    omega
  have HPN := Lib.hid hWH2.2.2.2.2.2
  replace hWH2 : 1 ≤ W ∧ 1 ≤ H ∧ W ≤ 4096 ∧ H ≤ 4096 ∧ W * H ≤ 65536 := ⟨hWH2.1, hWH2.2.1, hWH2.2.2.1, hWH2.2.2.2.1, hWH2.2.2.2.2.1⟩
  clear hg HP HV hwf
  have d1 : decide (kind < 1) = false := decide_eq_false (by omega)
  have d2 : decide (6 < kind) = false := decide_eq_false (by omega)
  have d3 : decide (top < 1) = false := decide_eq_false (by omega)
  have d4 : decide (65535 < top) = false := decide_eq_false (by omega)
  go_enter Tryd.func15, Tryd.ntmps15
  go_upto_region 1 with (fail)
  generalize w.alloc (.cells #[.int .i64 W, .int .i64 H, .slice P pn pc] 26) = W0 at hb0 hr0 hs0 ⊢
  have q0 := row_cell hr0 0
  have q1 := row_cell hr0 1
  have q2 := row_cell hr0 2
  have HR0 := Lib.hid hr0
  have HB0 := Lib.hid hb0
  have HS0 := Lib.hid hs0
  clear hr0 hb0 hs0
  go_wp2_with fail
  refine (HG.out W0).mono ?_
  rintro e w1 ⟨rfl, hb1⟩
  have HB1 : Hid (Below w.heap.size w w1) := HB0.out.trans (hb1.mono HB0.out.size)
  have HR1 : Hid (w1.heap[w.heap.size]? = some (.cells #[.int .i64 W, .int .i64 H, .slice P pn pc] 26 (0, 0))) := (hb1.block _ (by rw [HS0.out]; omega)).trans HR0.out
  have hlt1 : w.heap.size < w1.heap.size := (Array.getElem?_eq_some_iff.1 HR1.out).1
  clear q0 q1 q2 HR0 HB0 HS0 hb1 HG
  go_upto_region 5 with (fail)
  clear d1 d2 d3 d4
  have l1 : (Lib.itoa kind).length ≤ 21 := Lib.itoa_length_le _ (by omega) (by omega)
  have l2 : (Lib.itoa (W : Int)).length ≤ 21 := Lib.itoa_length_le _ (by omega) (by omega)
  have l3 : (Lib.itoa (H : Int)).length ≤ 21 := Lib.itoa_length_le _ (by omega) (by omega)
  have C0 := fun m os => cell_grown (a := ⟨w.heap.size, 0, none⟩) hlt1 (row_cell HR1.out 0) m os
  have C1 := fun m os => cell_grown (a := ⟨w.heap.size, 1, none⟩) hlt1 (row_cell HR1.out 1) m os
  have HTB : Hid (∀ m os, Lib.TabIs Tryd.prog (Sort.grow (w1.drewN m) os) "internal/strconv.uint64pow10" .u64 Lib.pow10Tab) := fun m os => (HVV.out.below (HB1.out.trans ((Shf.below_grow w1 m os).mono HB1.out.size)) (Nat.le_refl _)).tab
  refine wp_region_quiet_grown (by kernel_rfl) (by kernel_rfl) ?_
  repeat (first | go_big_quiet_step ((go_at_call 33; exact itoa_grown (by omega) (by omega) (HTB.out _ _))) | quiet_step ((go_at_call 33; exact itoa_grown (by omega) (by omega) (HTB.out _ _))))
  refine wpQuiet_nil ?_
  intro _ hw'
  obtain ⟨⟨nq, osq⟩, hw''⟩ := hw'
  subst hw''
  have hbg := Shf.below_grow w1 nq osq
  have HB2 : Hid (Below w.heap.size w (Sort.grow (w1.drewN nq) osq)) := HB1.out.trans (hbg.mono HB1.out.size)
  have HR2 : Hid ((Sort.grow (w1.drewN nq) osq).heap[w.heap.size]? = some (.cells #[.int .i64 W, .int .i64 H, .slice P pn pc] 26 (0, 0))) := (hbg.block _ hlt1).trans HR1.out
  clear C0 C1 HTB HR1 HB1 hbg hlt1
  generalize Sort.grow (w1.drewN nq) osq = w2 at HB2 HR2 ⊢
  have hch := head_cells W H kind
  generalize (({ data := #[80] } : ByteArray) ++ { data := (Lib.itoa kind).toArray } ++ { data := #[10] } ++ { data := (Lib.itoa (W : Int)).toArray } ++ { data := #[32] } ++ { data := (Lib.itoa (H : Int)).toArray } ++ { data := #[10] }) = sh at hch ⊢
  have HCH := Lib.hid hch
  have hsz : sh.size ≤ 100 := by rw [cells_size hch]; exact headB_len (by omega) (by omega) (by omega)
  have hltw : w.heap.size < w2.heap.size := (Array.getElem?_eq_some_iff.1 HR2.out).1
  clear hch l1 l2 l3
  obtain ⟨b, HBT, e9⟩ : ∃ b : Bool, Hid ((b = true ∧ topB kind top = itoaI top ++ [10]) ∨ (b = false ∧ topB kind top = [])) ∧ (((kind != 1) = true ∧ (kind != 4) = true ∧ Hid (b = true)) ∨ ((kind != 1) = false ∧ Hid (b = false)) ∨ ((kind != 1) = true ∧ (kind != 4) = false ∧ Hid (b = false))) := by
    unfold topB
    by_cases h1 : kind = 1
    · exact ⟨false, .inr ⟨rfl, by rw [if_pos (.inl h1)]⟩, .inr (.inl ⟨by simp [h1], rfl⟩)⟩
    · by_cases h4 : kind = 4
      · exact ⟨false, .inr ⟨rfl, by rw [if_pos (.inr h4)]⟩, .inr (.inr ⟨by simp [h1], by simp [h4], rfl⟩)⟩
      · exact ⟨true, .inl ⟨rfl, by rw [if_neg (by omega)]⟩, .inl ⟨by simp [h1], by simp [h4], rfl⟩⟩
  go_upto_region 6 with (fail)
  go_cut [47] (fun s47 wx => s47 = .bool b ∧ wx = w2)
  case first =>
    rcases e9 with ⟨f1, f2, f3⟩ | ⟨f1, f3⟩ | ⟨f1, f2, f3⟩
    · go_wp2_with fail
      go_meet
      exact ⟨by rw [f3.out], rfl⟩
    · go_wp2_with fail
      go_meet
      exact ⟨by rw [f3.out], rfl⟩
    · go_wp2_with fail
      go_meet
      exact ⟨by rw [f3.out], rfl⟩
  obtain ⟨rfl, rfl⟩ := hcut
  go_upto_if 47 with (fail)
  go_cut [8] (fun s8 wx => ∃ s2 : ByteArray, s8 = .string s2 ∧ Hid (Lib.byteCells s2.data.toList = (headB W H kind ++ topB kind top).map (.int .u8)) ∧ Hid (Below wc.heap.size wc wx))
  case first =>
    rcases HBT.out with ⟨rfl, HT⟩ | ⟨rfl, HT⟩
    · have HTT := Lib.hid HT
      clear HT
      have HTB : Hid (Lib.TabIs Tryd.prog wc "internal/strconv.uint64pow10" .u64 Lib.pow10Tab) := (HVV.out.below HB2.out (Nat.le_refl _)).tab
      have l1 : (Lib.itoa top).length ≤ 21 := Lib.itoa_length_le _ (by omega) (by omega)
      go_wp2_with fail
      refine (Shf.itoa top (by omega) (by omega) wc HTB.out).mono ?_
      rintro e w' ⟨rfl, hb⟩
      have HB := Lib.hid hb
      clear hb
      go_wp2_with fail
      go_meet
      refine ⟨_, rfl, ?_, HB⟩
      show _ = _
      rw [HTT.out, byteCells_app, byteCells_app, HCH.out, List.map_append, List.append_assoc, ← byteCells_app, top_cells]
    · have HTT := Lib.hid HT
      clear HT
      go_wp2_with fail
      go_meet
      refine ⟨_, rfl, ?_, Below.refl _ _⟩
      show _ = _
      rw [HTT.out, List.append_nil, HCH.out]
  obtain ⟨s2, rfl, HS2, HBC⟩ := hcut
  rename_i wc0 _
  have hcv := fun (V : World) (t : ByteArray) => Lib.run_convert_string_bytes (P := Tryd.prog) V 9 22 5 t Tryd.underlying9 Tryd.underlying22 Tryd.underlying5
  have HSZ : Hid (s2.size ≤ 122 ∧ s2.size = (headB W H kind ++ topB kind top).length) := by
    have h1 := cells_size HS2.out
    refine ⟨?_, h1⟩
    rw [h1, List.length_append]
    have h2 := headB_len (W := (W : Int)) (H := (H : Int)) (kind := kind) (by omega) (by omega) (by omega)
    have h3 := topB_len (kind := kind) t1 t2
    omega
  have hbw := Lib.bytesWorld_below wc 5 s2
  have hle2 : w.heap.size ≤ wc.heap.size := Nat.le_trans HB2.out.size HBC.out.size
  have HB3 : Hid (Below w.heap.size w (Lib.bytesWorld wc 5 s2)) := HB2.out.trans ((HBC.out.mono HB2.out.size).trans (hbw.mono hle2))
  have hltc : w.heap.size < wc.heap.size := Nat.lt_of_lt_of_le hltw HBC.out.size
  have HR3 : Hid ((Lib.bytesWorld wc 5 s2).heap[w.heap.size]? = some (.cells #[.int .i64 W, .int .i64 H, .slice P pn pc] 26 (0, 0))) := (hbw.block _ hltc).trans ((HBC.out.block _ hltw).trans HR2.out)
  have HOM : Hid (OwnM (Lib.bytesWorld wc 5 s2) (w.heap.size + 1) 5 (some ⟨wc.heap.size, 0, none⟩) s2.size (grownCap wc s2.size 0 5) ((headB W H kind ++ topB kind top).map (.int .u8))) := (OwnM.bytes wc 5 s2 _ HS2.out (by have := HSZ.out.1; unfold maxLen; omega)).mono hltc
  obtain ⟨sz, hszz⟩ : ∃ sz, s2.size = sz := ⟨_, rfl⟩
  rw [hszz] at HSZ HOM
  have HSS := Lib.hid hszz
  clear hbw HB2 HR2 e9 HBT HBC hsz hltw hszz
  go_upto_region 9 with (fail)
  rw [HSS.out]
  have HOM2 := HOM
  generalize grownCap wc sz 0 5 = gc at HOM2 ⊢
  generalize Lib.bytesWorld wc 5 s2 = w3 at HB3 HR3 HOM2 ⊢
  clear HOM hcv
  obtain ⟨hb, hhb⟩ : ∃ hb, headB W H kind ++ topB kind top = hb := ⟨_, rfl⟩
  rw [hhb] at HSZ HOM2 HD
  have hr0 : rowsB pix W kind top 0 = [] := rfl
  go_wp2_with fail
  go_loopw [9, 10] (fun so sy wr => ∃ (y : Nat) (A : Option Addr) (c : Nat), y ≤ H ∧ sy = .int .i64 y ∧ so = .slice A (hb ++ rowsB pix W kind top y).length c ∧ Hid (OwnM wr (w.heap.size + 1) 5 A (hb ++ rowsB pix W kind top y).length c ((hb ++ rowsB pix W kind top y).map (.int .u8))) ∧ Hid (Below w.heap.size w wr) ∧ Hid (wr.heap[w.heap.size]? = some (.cells #[.int .i64 W, .int .i64 H, .slice P pn pc] 26 (0, 0)))) (fun _ sy _ => H - (intOf sy).toNat)
  case atStart => exact ⟨0, _, gc, by omega, rfl, by rw [hr0, List.append_nil, HSZ.out.2], by rw [hr0, List.append_nil, ← HSZ.out.2]; exact HOM2, HB3, HR3⟩
  case round =>
    clear HOM2 HB3 HR3
    obtain ⟨y, A, c, hy, rfl, rfl, HOW, HBW, HRW⟩ := hrel
    have q0 := row_cell HRW.out 0
    have q1 := row_cell HRW.out 1
    have q2 := row_cell HRW.out 2
    have HLN : Hid ((hb ++ rowsB pix W kind top y).length ≤ 6000000) := by
      show _ ≤ _
      rw [List.length_append]
      have h1 := HSZ.out
      have h2 := rows_room HWF.out (kind := kind) (y := y) t1 t2 hy hWH2.2.2.2.2 hWH2.2.2.1 hWH2.2.2.2.1
      omega
    by_cases hlt : y < H
    · have d1 : decide ((y : Int) < (H : Int)) = true := decide_eq_true (by omega)
      have HRC := Lib.hid (rrow_any (pc := pc) wr (HSI.out.below HBW.out (Nat.le_refl _)) HWF.out HPN.out hWH2.2.2.1 hWH2.2.2.2.1 hlt k1 k2 t1 t2 (HVV.out.below HBW.out (Nat.le_refl _)))
      have HNX : Hid (hb ++ rowsB pix W kind top (y + 1) = (hb ++ rowsB pix W kind top y) ++ rowB pix W kind top y) := by show _ = _; rw [rowsB_succ, List.append_assoc]
      have HRL : Hid (1 ≤ (rowB pix W kind top y).length ∧ (rowB pix W kind top y).length ≤ 300000) := ⟨rowB_pos hWH2.1, by
        have := rowB_len HWF.out (kind := kind) t1 t2 W y
        omega⟩
      go_wp2_with fail
      refine HRC.out.mono ?_
      rintro e w4 ⟨hb4, A4, c4, rfl, ho4⟩
      have HO4 := Lib.hid (HOW.out.below hb4)
      have HS4 := Lib.hid (Sl.of_own ho4)
      have HB4 : Hid (Below w.heap.size w w4) := HBW.out.trans (hb4.mono HBW.out.size)
      have HR4 : Hid (w4.heap[w.heap.size]? = some (.cells #[.int .i64 W, .int .i64 H, .slice P pn pc] 26 (0, 0))) := (hb4.block _ (Array.getElem?_eq_some_iff.1 HRW.out).1).trans HRW.out
      have hlt4 : w.heap.size < w4.heap.size := (Array.getElem?_eq_some_iff.1 HR4.out).1
      clear hb4 ho4 HOW HBW HRW q0 q1 q2 HRC
      obtain ⟨bs, hbs⟩ : ∃ bs, hb ++ rowsB pix W kind top y = bs := ⟨_, rfl⟩
      obtain ⟨ro, hro⟩ : ∃ ro, rowB pix W kind top y = ro := ⟨_, rfl⟩
      rw [hbs] at HO4 HLN HNX ⊢
      rw [hro] at HS4 HNX HRL ⊢
      clear hbs hro
      have HYK : Hid (y + 1 ≤ H) := hlt
      have HEK : Hid (wrap64 ((y : Int) + 1) = (y : Int) + 1) := IntWalk.wrap64_in _ (by omega)
      clear hy hlt
      go_wp2_with (at_builtin; refine wpList_append_m _ rfl (.tmp 61) (.tmp 66) _ rfl (w.heap.size + 1) 5 1 _ Tryd.underlying22 infoU8 rfl A bs.length c (bs.map (.int .u8)) rfl HO4.out A4 ro.length c4 (ro.map (.int .u8)) rfl (by rw [List.length_map]) HRL.out.1 HS4.out (ints_oneCell .u8 _) (by have := HLN.out; have := HRL.out; unfold maxLen; omega) (by have := HLN.out; have := HRL.out; omega) hlt4 ?_)
      intro A5 c5 w5 ho5 hg5
      have HO5 := Lib.hid ho5
      have HOL : Hid (∀ k, (Value.slice A bs.length c).ownBlock = some k → w.heap.size + 1 ≤ k) := fun k e => (HO4.out.lt k e).1
      have HB5 : Hid (Below w.heap.size w w5) := HB4.out.grown hg5 HB4.out.size (fun k e => by have := HOL.out k e; omega)
      have HR5 : Hid (w5.heap[w.heap.size]? = some (.cells #[.int .i64 W, .int .i64 H, .slice P pn pc] 26 (0, 0))) := (hg5.block _ hlt4 (fun e => by have := HOL.out _ e.symm; omega)).trans HR4.out
      clear ho5 hg5
      go_wp2_with fail
      rw [HEK.out]
      refine ⟨⟨y + 1, A5, c5, HYK.out, by go_num, ?_, ?_, HB5, HR5⟩, meas HYK.out⟩
      · rw [HNX.out, List.length_append]
      · rw [HNX.out, List.length_append, List.map_append]; exact HO5
    · obtain rfl : y = H := by omega
      have d1 : decide ((y : Int) < (y : Int)) = false := by simp
      go_wp2_with fail
      go_ret2
      rw [HD.out]
      exact ⟨A, c, rfl, HOW.out.mono (Nat.le_succ _), HBW.out⟩
end Go.Proofs.YtbmlopklhgladaaDoor.Pnm
set_option linter.unusedVariables false
set_option linter.unusedSimpArgs false
namespace Go.Proofs.YtbmlopklhgladaaDoor.Pnm
open Go.RowKit K Ian Ard

def wk1 : List Int := [80, 49, 32, 50, 32, 49, 32, 49, 48]
def wk2 : List Int := [80, 50, 32, 49, 32, 49, 32, 57, 32, 49, 48]
def wkP : List Int := [0, 0, 0, 65535, 65535, 65535, 65535, 65535]
def wkB : List Int := [80, 50, 10, 50, 32, 49, 10, 57, 10, 48, 32, 57, 10]
theorem wk1_dec : (decM wk1 9).err = 0 ∧ (decM wk1 9).w = 2 ∧ (decM wk1 9).h = 1 ∧ (decM wk1 9).pix = wkP := by decide +kernel
theorem wk2_dec : (decM wk2 9).err = 9 := by decide +kernel
theorem wkB_enc : (encM 2 1 8 wkP 2 9).err = 0 ∧ (encM 2 1 8 wkP 2 9).bytes = wkB := by decide +kernel
theorem wk1_eq : decM wk1 9 = ⟨0, 2, 1, wkP⟩ := by
  obtain ⟨h1, h2, h3, h4⟩ := wk1_dec
  cases h : decM wk1 9 with
  | mk a b c d => rw [h] at h1 h2 h3 h4; simp only at h1 h2 h3 h4; rw [h1, h2, h3, h4]
theorem wkB_eq : encM 2 1 8 wkP 2 9 = ⟨0, wkB⟩ := by
  obtain ⟨h1, h2⟩ := wkB_enc
  cases h : encM 2 1 8 wkP 2 9 with
  | mk a b => rw [h] at h1 h2; simp only at h1 h2; rw [h1, h2]
theorem si_litF (w : World) (l : List Int) (r : Nat × Nat) (h : l.length ≤ 1000) : SI (w.alloc (.cells (l.map (.int .u8)).toArray 5 r)) .u8 (some ⟨w.heap.size, 0, none⟩) l.length l :=
  ⟨rfl, by simp only [kb]; omega, fun j u hu => ⟨w.heap.size, 0, rfl, by simp only [World.cell?, heap_alloc_new, Nat.zero_add]; simpa using hu⟩⟩
/-- what a test answers -/
def YesP (w : World) (e : Ending) (w' : World) : Prop := e = .returned (.bool true) ∧ Below w.heap.size w w'
set_option maxRecDepth 20000 in
set_option maxHeartbeats 4000000 in
theorem wakes_any (w : World) (HV : Vars w) : Calls Tryd.prog 8 #[] w (YesP w) := by
  have kc := fun (w : World) (C : Array Value) (n c : Nat) => Lib.run_convert_bytes_const (P := Tryd.prog) w 22 5 C n c Tryd.underlying22 Tryd.underlying5
  have HVV := Lib.hid HV
  clear HV
  go_enter Tryd.func8, Tryd.ntmps8
  go_wp2_with fail
  have hx1 : Below w.heap.size w (w.alloc (.cells (wk1.map (.int .u8)).toArray 5 (9, 10))) := (Below.refl _ w).alloc (Nat.le_refl _) _
  have HD1 := pdecode_any (n := 9) (c := 9) (l := wk1) (most := 9) _ (si_litF w wk1 (9, 10) (by decide)) (by decide) (by omega) (fun a e => by injection e with e; subst e; simp) (HVV.out.below hx1 (Nat.le_refl _))
  rw [wk1_eq] at HD1
  refine HD1.mono ?_
  rintro e w1 ⟨A1, c1, rfl, ho1, hb1⟩
  have HB1 : Hid (Below w.heap.size w w1) := hx1.trans (hb1.mono hx1.size)
  obtain ⟨g1, cap1, hv1, -, hgl1⟩ := World.ownsRow.form ho1 (by decide)
  injection hv1 with z1 z2 z3
  subst z1 z3
  have hcap1 := (own_caps ho1).1
  have HSP := Lib.hid (SI.of_own ho1 (by decide) : SI w1 .u16 (some ⟨g1, 0, none⟩) wkP.length wkP)
  have hm1 : (w1.alloc (.cells #[.int .i64 2, .int .i64 1, .slice (some ⟨g1, 0, none⟩) wkP.length c1] 26)).heap[w1.heap.size]? = some (.cells #[.int .i64 2, .int .i64 1, .slice (some ⟨g1, 0, none⟩) wkP.length c1] 26 (0, 0)) := heap_alloc_new w1 _
  have hb2 : Below w1.heap.size w1 (w1.alloc (.cells #[.int .i64 2, .int .i64 1, .slice (some ⟨g1, 0, none⟩) wkP.length c1] 26)) := (Below.refl _ w1).alloc (Nat.le_refl _) _
  clear ho1 hb1 HD1 hx1 z2 hgl1
  go_upto_region 2 with (fail)
  generalize w1.alloc (.cells #[.int .i64 2, .int .i64 1, .slice (some ⟨g1, 0, none⟩) wkP.length c1] 26) = X1 at hm1 hb2 ⊢
  obtain ⟨mb, hmb⟩ : ∃ mb, w1.heap.size = mb := ⟨_, rfl⟩
  have HBX : Hid (Below w.heap.size w X1) := HB1.out.trans (hb2.mono HB1.out.size)
  have HSX : Hid (SI X1 .u16 (some ⟨g1, 0, none⟩) wkP.length wkP) := HSP.out.below hb2 (Nat.le_refl _)
  rw [hmb] at hm1 ⊢
  have HM1 := Lib.hid hm1
  clear hm1 hb2 hmb HSP HB1
  go_wp2_with fail
  have hx2 : Below X1.heap.size X1 (X1.alloc (.cells (wk2.map (.int .u8)).toArray 5 (11, 12))) := (Below.refl _ X1).alloc (Nat.le_refl _) _
  refine (pdecode_any (n := 11) (c := 11) (l := wk2) (most := 9) _ (si_litF X1 wk2 (11, 12) (by decide)) (by decide) (by omega) (fun a e => by injection e with e; subst e; simp) (HVV.out.below (HBX.out.trans (hx2.mono HBX.out.size)) (Nat.le_refl _))).mono ?_
  rintro e w2 ⟨A2, c2, rfl, -, hb2⟩
  rw [wk2_dec]
  obtain ⟨d2w, hd2w⟩ : ∃ z, (decM wk2 9).w = z := ⟨_, rfl⟩
  obtain ⟨d2h, hd2h⟩ : ∃ z, (decM wk2 9).h = z := ⟨_, rfl⟩
  obtain ⟨d2n, hd2n⟩ : ∃ z, (decM wk2 9).pix.length = z := ⟨_, rfl⟩
  rw [hd2w, hd2h, hd2n]
  clear hd2w hd2h hd2n
  have hb3 : Below X1.heap.size X1 (w2.alloc (.cells #[.int .i64 d2w, .int .i64 d2h, .slice A2 d2n c2] 26)) := (hx2.trans (hb2.mono hx2.size)).alloc (Nat.le_trans hx2.size hb2.size) _
  go_upto_region 3 with (fail)
  generalize w2.alloc (.cells #[.int .i64 d2w, .int .i64 d2h, .slice A2 d2n c2] 26) = X2 at hb3 ⊢
  have HBX2 : Hid (Below w.heap.size w X2) := HBX.out.trans (hb3.mono HBX.out.size)
  have HSX2 : Hid (SI X2 .u16 (some ⟨g1, 0, none⟩) wkP.length wkP) := HSX.out.below hb3 (Nat.le_refl _)
  have HM2 : Hid (X2.heap[mb]? = some (.cells #[.int .i64 2, .int .i64 1, .slice (some ⟨g1, 0, none⟩) wkP.length c1] 26 (0, 0))) := (hb3.block _ (Array.getElem?_eq_some_iff.1 HM1.out).1).trans HM1.out
  clear hx2 hb2 hb3 HBX HSX HM1
  have q0 := row_cell HM2.out 0
  have q1 := row_cell HM2.out 1
  have q2 := row_cell HM2.out 2
  have HE := pencode_in (W := 2) (H := 1) (kind := 2) (top := 9) X2 HSX2.out (by decide) hcap1 (by decide) (by omega) (by omega) (by omega) (by omega) (HVV.out.below HBX2.out (Nat.le_refl _))
  rw [show encM ((2 : Nat) : Int) ((1 : Nat) : Int) wkP.length wkP 2 9 = ⟨0, wkB⟩ from wkB_eq] at HE
  have HEE := Lib.hid HE
  clear HE
  go_wp2_with fail
  refine HEE.out.mono ?_
  rintro e w3 ⟨A3, c3, rfl, ho3, hb3⟩
  have HBX3 : Hid (Below w.heap.size w w3) := HBX2.out.trans (hb3.mono HBX2.out.size)
  have hsx3 : SI w3 .u16 (some ⟨g1, 0, none⟩) wkP.length wkP := HSX2.out.below hb3 (Nat.le_refl _)
  have HM3 : Hid (w3.heap[mb]? = some (.cells #[.int .i64 2, .int .i64 1, .slice (some ⟨g1, 0, none⟩) wkP.length c1] 26 (0, 0))) := (hb3.block _ (Array.getElem?_eq_some_iff.1 HM2.out).1).trans HM2.out
  clear q0 q1 q2 HEE HBX2 HSX2 HM2 hb3
  have q0 := row_cell HM3.out 0
  have q1 := row_cell HM3.out 1
  have q2 := row_cell HM3.out 2
  have hpx : ∀ j, j < 8 → w3.cell? ⟨g1, j, none⟩ = some (.int .u16 (wkP.getD j 0)) := fun j hj => by
    obtain ⟨b', o', e, hc⟩ := hsx3.sl j (.int .u16 (wkP.getD j 0)) (by rw [List.getElem?_map, List.getD_eq_getElem?_getD, List.getElem?_eq_getElem (show j < wkP.length from hj)]; rfl)
    injection e with e
    injection e with e1 e2
    subst e1 e2
    rwa [Nat.zero_add] at hc
  have p0 : w3.cell? ⟨g1, 0, none⟩ = some (.int .u16 0) := hpx 0 (by omega)
  have p4 : w3.cell? ⟨g1, 4, none⟩ = some (.int .u16 65535) := hpx 4 (by omega)
  have p3 : w3.cell? ⟨g1, 3, none⟩ = some (.int .u16 65535) := hpx 3 (by omega)
  obtain ⟨g3, cap3, hv3, -, -⟩ := World.ownsRow.form ho3 (by decide)
  injection hv3 with z1 z2 z3
  subst z1
  have hs3 : SI w3 .u8 (some ⟨g3, 0, none⟩) wkB.length wkB := SI.of_own ho3 (by decide)
  have hcv : (convert 22 9 (.slice (some ⟨g3, 0, none⟩) wkB.length c3)).run Tryd.prog w3 = .ok (.string ⟨#[80, 50, 10, 50, 32, 49, 10, 57, 10, 48, 32, 57, 10]⟩) w3 :=
    run_convert_bytes_arg w3 22 5 Tryd.underlying22 Tryd.underlying5 g3 0 wkB.length c3 wkB rfl (fun i hi => by
      obtain ⟨b', o', z, e, hc, hz, -⟩ := hs3.cells (i := i) hi
      injection e with e
      injection e with e1 e2
      subst e1 e2
      rw [hc, getD_of hz.out]) 9 Tryd.underlying9
  clear hpx hs3 ho3 hsx3 z2 z3 HM3
  go_wp2_with fail
  go_ret
  exact ⟨rfl, HBX3.out⟩
end Go.Proofs.YtbmlopklhgladaaDoor.Pnm
