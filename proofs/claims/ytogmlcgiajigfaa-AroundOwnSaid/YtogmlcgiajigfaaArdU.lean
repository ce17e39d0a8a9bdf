/-
  Walks: the reference's Check, Reach; Names.
-/
import Derived.Test.YtogmlcgiajigfaaArdT
set_option linter.unusedVariables false
set_option linter.unusedSimpArgs false
namespace Go.Proofs.Ytogmlcgiajigfaa.Ard
open Go.RowKit K

theorem idxF_some {op : ByteArray} {k : Nat} (h : idxF op = some k) : k < 9 ∧ op = nameF k := by
  unfold idxF at h
  have h1 := List.find?_some h
  have h2 := List.mem_of_find?_eq_some h
  simp at h1 h2
  exact ⟨h2, h1.symm⟩
theorem rcheck_any {op : ByteArray} {A : Option Addr} {n c : Nat} {a : List Int} (w : World) (HA : SI w .i64 A n a) : Calls Try.prog 17 #[.string op, .slice A n c] w (CheckP w (checkE op a)) := by
  have HAA := Lib.hid HA
  clear HA
  go_enter Try.func17, Try.ntmps17
  go_wp2_with fail
  refine (rnames_any w).mono ?_
  rintro e w1 ⟨g, rfl, hs, hb⟩
  have HB := Lib.hid hb
  have HS := Lib.hid hs
  clear hs hb
  go_wp2_with fail
  refine (in_any w1 HS.out).mono ?_
  rintro e w2 ⟨rfl, rfl⟩
  cases hid : idxF op with
  | none =>
    have HE : Hid (checkE op a = 8) := by show _ = _; unfold checkE; rw [hid]
    clear hid
    simp only [Option.isSome_none]
    go_wp2_with fail
    go_ret
    exact ⟨by rw [HE.out]; rfl, HB.out⟩
  | some k =>
    obtain ⟨hk, hop⟩ := idxF_some hid
    have HE : Hid (checkE op a = if fitsB (bndF k) a then 0 else 190) := by show _ = _; unfold checkE; rw [hid]
    have HBD := Lib.hid (bounds_any w1 hk hop)
    clear hid hop
    simp only [Option.isSome_some]
    go_wp2_with fail
    refine HBD.out.mono ?_
    rintro e w3 ⟨B, bc, rfl, hsi, hb3⟩
    have hl2 : (flatP (bndF k)).length = 2 * (bndF k).length := by
      unfold flatP
      generalize bndF k = l
      induction l with
      | nil => rfl
      | cons p l ih => rw [List.flatMap_cons, List.length_append, ih]; simp; omega
    have HB3 : Hid (Below w.heap.size w w3) := HB.out.trans (hb3.mono HB.out.size)
    have HF := Lib.hid (fit_any (c := c) (d := bc) w3 (HAA.out.below HB3.out (Nat.le_refl _)) rfl hl2 hsi (bndF_len k))
    clear hsi hb3 hl2
    go_wp2_with fail
    refine HF.out.mono ?_
    rintro e w4 ⟨rfl, q, rfl⟩
    cases hfit : fitsB (bndF k) a
    · have HE2 : Hid (checkE op a = 190) := by show _ = _; rw [HE.out, hfit]; rfl
      clear hfit
      go_wp2_with fail
      go_ret
      exact ⟨by rw [HE2.out]; rfl, below_drewN HB3.out _⟩
    · have HE2 : Hid (checkE op a = 0) := by show _ = _; rw [HE.out, hfit]; rfl
      clear hfit
      go_wp2_with fail
      go_ret
      exact ⟨by rw [HE2.out]; rfl, below_drewN HB3.out _⟩
theorem check_ok {op : ByteArray} {a : List Int} (h : checkE op a = 0) : ∃ k, k < 9 ∧ idxF op = some k ∧ op = nameF k ∧ fitsB (bndF k) a = true := by
  unfold checkE at h
  cases hid : idxF op with
  | none => rw [hid] at h; simp at h
  | some k =>
    rw [hid] at h
    obtain ⟨hk, hop⟩ := idxF_some hid
    refine ⟨k, hk, rfl, hop, ?_⟩
    cases hf : fitsB (bndF k) a with
    | true => rfl
    | false => simp [hf] at h
set_option maxHeartbeats 1000000 in
theorem rreach_any {op : ByteArray} {A : Option Addr} {n c : Nat} {a : List Int} (w : World) (HA : SI w .i64 A n a) : Calls Try.prog 15 #[.string op, .slice A n c] w (ReachP w op a) := by
  have HAA := Lib.hid HA
  have HC := Lib.hid (rcheck_any (op := op) (c := c) w HA)
  clear HA
  by_cases h0 : checkE op a = 0
  · obtain ⟨k, hk, hid, hop, hf⟩ := check_ok h0
    have hr : reachE op a = rxF k a := by unfold reachE; rw [hid]
    have n1 := name_beq (j := 1) hk (by omega) hop
    have n5 := name_beq (j := 5) hk (by omega) hop
    have n6 := name_beq (j := 6) hk (by omega) hop
    have n7 := name_beq (j := 7) hk (by omega) hop
    have n8 := name_beq (j := 8) hk (by omega) hop
    simp only [litF] at n1 n5 n6 n7 n8
    rw [h0] at HC
    have hl := (fits_at hf).1
    have HPOST : Hid (∀ e W, e = .returned (.tuple #[.int .i64 (rxF k a), .int .i64 0]) ∧ Below w.heap.size w W → ReachP w op a e W) := fun e W h => ⟨by rw [if_pos h0, h0, hr]; exact h.1, h.2⟩
    have hla := HAA.out.len
    clear h0 hid hop hf hr
    rcases nine hk with rfl | rfl | rfl | rfl | rfl | rfl | rfl | rfl | rfl <;> simp only [Nat.reduceBEq] at n1 n5 n6 n7 n8
    case inl =>
      clear hla hl
      go_enter Try.func15, Try.ntmps15
      go_wp2_with (go_at_call 17; refine HC.out.mono ?_; rintro e w1 ⟨rfl, hb1⟩; have HB1 := Lib.hid hb1; clear hb1)
      go_ret2
      exact HPOST.out _ _ ⟨rfl, HB1.out⟩
    case inr.inr.inl =>
      clear hla hl
      go_enter Try.func15, Try.ntmps15
      go_wp2_with (go_at_call 17; refine HC.out.mono ?_; rintro e w1 ⟨rfl, hb1⟩; have HB1 := Lib.hid hb1; clear hb1)
      go_ret2
      exact HPOST.out _ _ ⟨rfl, HB1.out⟩
    case inr.inr.inr.inl =>
      clear hla hl
      go_enter Try.func15, Try.ntmps15
      go_wp2_with (go_at_call 17; refine HC.out.mono ?_; rintro e w1 ⟨rfl, hb1⟩; have HB1 := Lib.hid hb1; clear hb1)
      go_ret2
      exact HPOST.out _ _ ⟨rfl, HB1.out⟩
    case inr.inr.inr.inr.inl =>
      clear hla hl
      go_enter Try.func15, Try.ntmps15
      go_wp2_with (go_at_call 17; refine HC.out.mono ?_; rintro e w1 ⟨rfl, hb1⟩; have HB1 := Lib.hid hb1; clear hb1)
      go_ret2
      exact HPOST.out _ _ ⟨rfl, HB1.out⟩
    all_goals (
      have hn1 : n = 1 := by rw [← hla, hl]; rfl
      have HN1 : Hid (1 ≤ n) := by show 1 ≤ n; omega
      clear hla hl hn1
      have hi : (0 : Int) < (n : Int) := by have := HN1.out; omega
      have CC : Hid (∃ b off, A = some ⟨b, off, none⟩ ∧ b < w.heap.size ∧ w.cell? ⟨b, off, none⟩ = some (.int .i64 (a.getD 0 0))) := by
        obtain ⟨b, off, x, e, hc, hx, hb⟩ := HAA.out.cells (i := 0) HN1.out
        exact ⟨b, off, e, hb, by rw [getD_at hx.out]; exact hc⟩
      obtain ⟨b, off, rfl, hb, hc⟩ := CC.out
      have HCC : Hid (∀ W, Below w.heap.size w W → W.cell? ⟨b, off, none⟩ = some (.int .i64 (a.getD 0 0))) := fun W hW => (hW.cell (p := ⟨b, off, none⟩) hb).trans hc
      clear CC hc hb
      go_enter Try.func15, Try.ntmps15
      go_wp2_with (go_at_call 17; refine HC.out.mono ?_; rintro e w1 ⟨rfl, hb1⟩; have HB1 := Lib.hid hb1; have z1 := HCC.out _ hb1; clear hb1)
      go_ret2
      exact HPOST.out _ _ ⟨rfl, HB1.out⟩)
  · have HPOST : Hid (∀ e W, e = .returned (.tuple #[.int .i64 0, .int .i64 (checkE op a)]) ∧ Below w.heap.size w W → ReachP w op a e W) := fun e W h => ⟨by rw [if_neg h0]; exact h.1, h.2⟩
    have hnv : (checkE op a != 0) = true := by simpa using h0
    clear h0
    generalize checkE op a = v at *
    go_enter Try.func15, Try.ntmps15
    go_wp2_with (go_at_call 17; refine HC.out.mono ?_; rintro e w1 ⟨rfl, hb1⟩; have HB1 := Lib.hid hb1; clear hb1)
    go_ret2
    exact HPOST.out _ _ ⟨rfl, HB1.out⟩
/-- Names: the nine names, in a new list -/
theorem strInfo : (Try.prog.info? 9).map (fun i => (i.zero, i.size, i.bytes)) = some (some (.string ⟨#[]⟩), 1, 16) := by kernel_rfl
theorem names_any (w : World) : Calls Try.prog 11 #[] w fun e w' => ∃ g c, e = .returned (.slice (some ⟨g, 0, none⟩) 9 c) ∧ Sl w' (some ⟨g, 0, none⟩) namesC ∧ Below w.heap.size w w' := by
  go_enter Try.func11, Try.ntmps11
  go_wp2_with fail
  refine (operators_any _).mono ?_
  rintro e wb ⟨g, rfl, hgl, hg, hbb, hops⟩
  have HBB := Lib.hid hbb
  have HOPS := Lib.hid hops
  clear hbb hops
  go_wp2_with fail
  go_loopw [1, 6] (fun s1 s6 wr => ∃ (k : Nat) (A2 : Option Addr) (c2 : Nat), k ≤ 9 ∧ s6 = .int .i64 k ∧ s1 = .slice A2 k c2 ∧ wr.ownsRow wb.heap.size 9 1 (.slice A2 k c2) k (namesC.take k) ∧ Below wb.heap.size wb wr) (fun _ s6 _ => 9 - (intOf s6).toNat)
  case atStart => exact ⟨0, none, 0, by omega, rfl, rfl, World.ownsRow_nil _ _ _ _, Below.refl _ _⟩
  case round =>
    obtain ⟨k, A2, c2, hk, rfl, rfl, hown, hb⟩ := hrel
    have HO := Lib.hid hown
    have HB := Lib.hid hb
    clear hown hb
    by_cases hlt : k < 9
    · have d0 : decide ((k : Int) < 9) = true := decide_eq_true (by omega)
      have i0 : (0 : Int) ≤ (k : Int) := by omega
      have i1 : (k : Int) < 9 := by omega
      obtain ⟨B, bc, hop⟩ := HOPS.out k hlt
      obtain ⟨z0, z1, z2, z3, z4, -⟩ := hop.on HB.out
      have HT : Hid (namesC.take (k + 1) = namesC.take k ++ [.string (nameF k)]) := take_snoc (namesC_at hlt)
      clear hop
      go_wp2_with (first
        | (refine wpList_store_rowW rfl 72 (.tmp 3) (.tmp 9) rfl wr.heap.size (opCells k B (bndF k).length bc) rfl rfl 72 zeroOp (heap_alloc_new wr _) opInfo rfl (opAll _ _ _ _) wr.heap.size wr ((Below.refl _ _).alloc (Nat.le_refl _) _) (Nat.le_refl _) ?_; intro W HW1 HW2 HW3; have y0 : W.cell? ⟨wr.heap.size, 0, none⟩ = some (.string (nameF k)) := row_cell HW1.out 0; have HOW : Hid (W.ownsRow wb.heap.size 9 1 (.slice A2 k c2) k (namesC.take k)) := own_on HO.out HW2.out; have HBW : Hid (Below wb.heap.size wb W) := HB.out.trans (HW2.out.mono HB.out.size))
        | (at_builtin; refine wpList_append_sl _ rfl (.tmp 10) (.tmp 13) _ rfl wb.heap.size 9 1 16 _ Try.underlying24 strInfo rfl (by omega) (.slice A2 k c2) k _ rfl (HOW.out.alloc _) _ 1 1 [.string (nameF k)] rfl rfl (sl_new W [.string (nameF k)] _) ?c1 ?c2 ?c3 ?c4 ?_))
      case c1 => intro u hu; simp at hu; rw [hu]; rfl
      case c2 => unfold maxLen; omega
      case c3 => omega
      case c4 => have := HBW.out.size; simp; omega
      intro v' w5 hown5 hg5 hat5
      obtain ⟨A5, c5, rfl⟩ := own_form hown5
      have HO5 : Hid (w5.ownsRow wb.heap.size 9 1 (.slice A5 (k + 1) c5) (k + 1) (namesC.take (k + 1))) := by rw [HT.out]; exact hown5
      have HB5 : Hid (Below wb.heap.size wb w5) := (HBW.out.alloc HBW.out.size _).grown hg5 (by have := HBW.out.size; simp; omega) (fun b e => (HOW.out.lt b e).1)
      clear hown5 hg5 hat5 HO HB HOW HBW HT
      go_wp2_with fail
      go_roundw
      case rel => exact ⟨k + 1, A5, c5, by omega, by go_num, rfl, HO5.out, HB5.out⟩
      case measure => simp [intOf]; omega
    · obtain rfl : k = 9 := by omega
      simp only [Int.cast_ofNat_Int]
      go_wp2_with fail
      go_ret
      rcases HO.out.2 with ⟨-, hz⟩ | ⟨gb, cap2, cur, hv, -⟩
      · omega
      · injection hv with h1 h2 h3
        subst h1 h3
        exact ⟨gb, c2, rfl, Sl.of_own HO.out, HBB.out.trans (HB.out.mono HBB.out.size)⟩
end Go.Proofs.Ytogmlcgiajigfaa.Ard
