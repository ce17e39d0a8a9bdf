/-
  Walks: prefix.Build.
-/
import Derived.Test.YtmgbjgjlddifaaaGreatZG11
import Derived.Deep.RegionHeld3
import Derived.Deep.AppendLies
set_option linter.unusedVariables false
set_option linter.unusedSimpArgs false
namespace Go.Proofs.YtmgbjgjlddifaaaGreat.Bld
open Go.RowKit K Srt Cat Pfx

set_option maxRecDepth 100000 in
set_option maxHeartbeats 1000000 in
theorem build_long {A : Option Addr} {n c : Nat} {mo : Int} {l : List Int} (w : World) (HA : SI w .i64 A n l) (h : 4096 < n) :
    Calls Tryz.prog 46 #[.slice A n c, .int .i64 mo] w fun e w' => e = .returned (.tuple #[.slice none 0 0, .int .i64 3]) ∧ w = w' := by
  have hbig := HA.big
  go_enter Tryz.func46, Tryz.ntmps46
  go_wp2
  go_ret2
  exact ⟨rfl, rfl⟩
set_option maxRecDepth 100000 in
set_option maxHeartbeats 1000000 in
theorem build_range {A : Option Addr} {n c : Nat} {mo : Int} {l : List Int} (w : World) (HA : SI w .i64 A n l) (h : n ≤ 4096) (hb : mo < 1 ∨ 16 < mo ∨ l.any heavyB = true) :
    Calls Tryz.prog 46 #[.slice A n c, .int .i64 mo] w fun e w' => e = .returned (.tuple #[.slice none 0 0, .int .i64 2]) ∧ w = w' := by
  have hbig := HA.big
  by_cases h1 : mo < 1
  · go_enter Tryz.func46, Tryz.ntmps46
    go_wp2
    go_ret2
    exact ⟨rfl, rfl⟩
  · by_cases h2 : 16 < mo
    · go_enter Tryz.func46, Tryz.ntmps46
      go_wp2
      go_ret2
      exact ⟨rfl, rfl⟩
    · have h3 : Hid (l.any heavyB = true) := by show _ = _; rcases hb with h | h | h <;> first | omega | exact h
      clear hb
      go_enter Tryz.func46, Tryz.ntmps46
      go_wp2_with (go_at_call 70; refine (containsFunc_any _ HA).mono ?_; rintro e w' ⟨rfl, rfl⟩; rw [h3.out])
      go_ret2
      exact ⟨rfl, rfl⟩

/-- after k counts: the coins so far -/
structure B1 (w wr : World) (l : List Int) (k m : Nat) (v : Value) (f : Nat → Coin) (ss : Nat → List Int) : Prop where
  bel : Below w.heap.size w wr
  apd : Apd wr w.heap.size v m f ss
  row : rowL m f ss = ownA l k
/-- one coin more: its symbols' block, the coin's own block, the append -/
theorem B1.step {w wr w2 : World} {l : List Int} {k m : Nat} {Av : Option Addr} {cv : Nat} {v' : Value} {f : Nat → Coin} {ss : Nat → List Int} {x : Int} (h : B1 w wr l k m (.slice Av m cv) f ss) (hx : l[k]? = some x) (h0 : 0 < x)
    (hg : ((wr.alloc (.cells #[.int .i64 k] 3)).alloc (.cells #[.int .i64 x, .slice (some ⟨wr.heap.size, 0, none⟩) 1 1] 130)).grownBy w2 (Value.slice Av m cv).ownBlock)
    (ho : w2.ownsRow w.heap.size 130 2 v' (m + 1) (flat m f ++ [.int .i64 x, .slice (some ⟨wr.heap.size, 0, none⟩) 1 1]))
    (hat : v'.ownBlock = (Value.slice Av m cv).ownBlock ∨ v'.ownBlock = some (wr.heap.size + 2)) :
    B1 w w2 l (k+1) (m+1) v' (fun i => if i = m then ⟨x, some ⟨wr.heap.size, 0, none⟩, 1, 1⟩ else f i) (fun i => if i = m then [(k : Int)] else ss i) := by
  have hlt := h.apd.own.lt
  have hsz := hg.size
  simp only [World.size_alloc] at hsz
  have hbk : ∀ b, b < wr.heap.size → some b ≠ (Value.slice Av m cv).ownBlock → w2.heap[b]? = wr.heap[b]? := fun b hb hne => by
    rw [hg.block b (by simp; omega) hne, Below.heap_alloc _ _ _ (by simp; omega), Below.heap_alloc _ _ _ hb]
  refine ⟨?_, h.apd.push (x := ⟨x, some ⟨wr.heap.size, 0, none⟩, 1, 1⟩) (s := [(k : Int)]) ⟨?_, rfl⟩ ?_ ?_ (by omega) ho ?_, ?_⟩
  · have hs := h.bel.size
    exact ((h.bel.alloc hs _).alloc (by simp; omega) _).grown hg (by simp; omega) (fun q hq => (hlt q hq).1)
  · intro j u hu
    obtain ⟨b, off, e, hc⟩ := Sl.one wr (.int .i64 k) 3 j u hu
    refine ⟨b, off, e, ?_⟩
    injection e with e; injection e with e1 e2
    have hc2 : ((wr.alloc (.cells #[.int .i64 k] 3)).alloc (.cells #[.int .i64 x, .slice (some ⟨wr.heap.size, 0, none⟩) 1 1] 130)).cell? ⟨b, off + j, none⟩ = some u := by
      rw [World.cell?_alloc_lt _ _ _ (by simp; omega)]; exact hc
    refine hg.cell hc2 (fun e3 => ?_)
    have := (hlt b e3.symm).2
    omega
  · intro b off sp e
    injection e with e; injection e with e1 e2
    subst e1
    refine ⟨by omega, fun e3 => ?_⟩
    rcases hat with q | q
    · rw [q] at e3; have := (hlt _ e3.symm).2; omega
    · rw [q] at e3; injection e3 with e3; omega
  · intro i hi b off sp e
    exact hbk b (h.apd.sy.lt i hi b off sp e) (h.apd.ap i hi b off sp e)
  · intro i hi b off sp e e3
    rcases hat with q | q
    · rw [q] at e3; exact h.apd.ap i hi b off sp e e3
    · rw [q] at e3; injection e3 with e3; have := h.apd.sy.lt i hi b off sp e; omega
  · rw [rowL_push, h.row, ownA_succ hx, if_pos h0]
def BuildPost (w : World) (l : List Int) (most : Nat) (e : Ending) (w' : World) : Prop :=
  Below w.heap.size w w' ∧
  if 2 ^ most < (ownA l l.length).length then e = .returned (.tuple #[.slice none 0 0, .int .i64 31])
  else ∃ (b : Nat) (o : Nat → Int), w.heap.size ≤ b ∧ e = .returned (.tuple #[.slice (some ⟨b, 0, none⟩) l.length l.length, .int .i64 0]) ∧ w'.rowIs b 3 l.length (fun i => .int .i64 (o i)) ∧
    if (ownA l l.length).length = 0 then ∀ i, o i = 0
    else if (ownA l l.length).length = 1 then ∀ i, o i = if 0 < l.getD i 0 ∧ i < l.length then 1 else 0
    else ∃ R, R = rowF (ownA l l.length) (most - 1) ∧ ∀ i : Nat, o i = ((occ R (2 * (ownA l l.length).length - 2)).count (i : Int) : Nat)

set_option maxRecDepth 100000 in
set_option maxHeartbeats 4000000 in
theorem build_ok {A : Option Addr} {n c most : Nat} {l : List Int} (w : World) (HA : SI w .i64 A n l) (h : n ≤ 4096) (hm1 : 1 ≤ most) (hm2 : most ≤ 16) (hb : l.any heavyB = false) :
    Calls Tryz.prog 46 #[.slice A n c, .int .i64 most] w (BuildPost w l most) := by
  have hbig := HA.big
  have hlen := Lib.hid HA.len
  have hB := Lib.hid hb
  clear hb
  have hdA : decide ((4096 : Int) < (n : Int)) = false := by simp; omega
  have hdB : decide ((most : Int) < 1) = false := by simp; omega
  have hdC : decide ((16 : Int) < (most : Int)) = false := by simp; omega
  go_enter Tryz.func46, Tryz.ntmps46
  go_wp2_with (go_at_call 70; refine (containsFunc_any _ HA).mono ?_; rintro e w' ⟨rfl, rfl⟩; rw [hB.out])
  go_loopw [6, 7, 8, 33] (fun v _ _ i wr => ∃ (k m : Nat) (f : Nat → Coin) (ss : Nat → List Int) (Av : Option Addr) (cv : Nat), k ≤ n ∧ i = .int .i64 k ∧ m ≤ k ∧ v = .slice Av m cv ∧ B1 w wr l k m (.slice Av m cv) f ss) (fun _ _ _ i _ => n - (intOf i).toNat)
  case atStart => exact ⟨0, 0, fun _ => ⟨0, none, 0, 0⟩, fun _ => [], none, 0, by omega, rfl, by omega, rfl, Below.refl _ _, Apd.nil _ _ _ _, rfl⟩
  case round =>
    obtain ⟨k, m, f, ss, Av, cv, hk, rfl, hmk, rfl, hB1⟩ := hrel
    have hsz := hB1.bel.size
    by_cases hlt : k < n
    · obtain ⟨b, off, x, rfl, hc0, hx, hbl⟩ := HA.cells hlt
      have hc : wr.cell? ⟨b, off + k, none⟩ = some (.int .i64 x) := (hB1.bel.cell (p := ⟨b, off+k, none⟩) hbl).trans hc0
      have hlt' : (k : Int) < n := by omega
      by_cases h0 : 0 < x
      · go_wp2_with (at_builtin; refine wpList_append_sl _ rfl (.tmp 40) (.tmp 45) _ rfl w.heap.size 130 2 32 _ Tryz.underlying128 infoCoin rfl (by omega) (.slice Av m cv) m (flat m f) rfl ((hB1.apd.own.alloc _).alloc _) _ 1 1 [.int .i64 x, .slice (some ⟨wr.heap.size, 0, none⟩) 1 1] rfl rfl (Sl.new2 wr _ [.int .i64 x, .slice (some ⟨wr.heap.size, 0, none⟩) 1 1] _) ?c1 ?c2 ?c3 ?c4 ?_)
        case c1 => simp [Value.oneCell']
        case c2 => unfold maxLen; omega
        case c3 => omega
        case c4 => simp; omega
        intro v' w2 hown2 hg2 hat2
        have hst := hB1.step hx.out h0 hg2 hown2 hat2
        obtain ⟨A3, c3, rfl⟩ := own_form hown2
        clear hg2 hown2 hat2
        go_wp2
        go_roundw
        case rel => exact ⟨k + 1, m + 1, _, _, A3, c3, by omega, by go_num, by omega, rfl, hst⟩
        case measure => simp [intOf]; omega
      · have hst : B1 w wr l (k+1) m (.slice Av m cv) f ss := ⟨hB1.bel, hB1.apd, by rw [hB1.row, ownA_succ hx.out, if_neg h0, List.append_nil]⟩
        go_wp2
        go_roundw
        case rel => exact ⟨k + 1, m, f, ss, Av, cv, by omega, by go_num, by omega, rfl, hst⟩
        case measure => simp [intOf]; omega
    · obtain rfl : k = n := by omega
      have hrow : Hid (rowL m f ss = ownA l l.length) := by show _ = _; rw [hlen.out]; exact hB1.row
      have hm : Hid ((ownA l l.length).length = m) := by show _ = _; rw [← hrow.out, rowL_len]
      have hmk2 := fun w => run_make_row' (P := Tryz.prog) 43 3 (.int .i64 0) 8 Tryz.underlying43 Cat.infoInt rfl .i64 .i64 k (by omega) (by omega) w
      have hpw := pow16 (x := 16 - (most : Int)) (by omega) (by omega)
      rw [show (16 - (16 - (most : Int))).toNat = most by omega] at hpw
      have hbel : Below w.heap.size w (wr.alloc (.cells (madeCells #[.int .i64 0] k) 3)) := hB1.bel.alloc hsz _
      have hout := World.rowIs_made wr (.int .i64 0) k 3
      have hnew : wr.grownBy (wr.alloc (.cells (madeCells #[.int .i64 0] k) 3)) none := World.grownBy_alloc _ _ _
      go_upto_region 13 with (fail)
      generalize wr.alloc (.cells (madeCells #[.int .i64 0] k) 3) = wo at *
      clear hmk2
      by_cases h1 : 2 ^ most < m
      · have h1' : (2 : Int) ^ most < m := by exact_mod_cast h1
        go_wp2
        go_ret2
        refine ⟨hbel, ?_⟩
        rw [if_pos (by rw [hm.out]; exact h1)]
        rfl
      · have h1' : ¬ (2 : Int) ^ most < m := by intro hh; exact h1 (by exact_mod_cast hh)
        by_cases h2 : m = 0
        · have h2' : ((m : Int) == 0) = true := by simp [h2]
          have H2 := Lib.hid h2
          clear h2
          go_wp2
          go_ret2
          refine ⟨hbel, ?_⟩
          rw [if_neg (by rw [hm.out]; exact h1)]
          refine ⟨wr.heap.size, fun _ => 0, hsz, by rw [hlen.out]; rfl, by rw [hlen.out]; exact hout, ?_⟩
          rw [if_pos (by rw [hm.out]; exact H2.out)]
          exact fun _ => rfl
        · have h2' : ((m : Int) == 0) = false := by simp [h2]
          obtain ⟨g, cg, hv, hg1, hg2⟩ := hB1.apd.own.form (by omega)
          injection hv with hv _ hcv
          subst hv hcv
          have hcb : CB wr g m f := own_CB hB1.apd.own
          have hsy := hB1.apd.sy
          have hap := hB1.apd.ap
          by_cases h3 : m = 1
          · have h3' : ((m : Int) == 1) = true := by simp [h3]
            have H3 := Lib.hid h3
            obtain ⟨i0, hi0, hs0, hu0⟩ : ∃ i0, i0 < k ∧ ss 0 = [(i0 : Int)] ∧ ∀ i, i < k → (0 < l.getD i 0 ↔ i = i0) := by
              have := hrow.out
              rw [h3, hlen.out] at this
              obtain ⟨i0, q1, q2, q3⟩ := ownA_one this.symm
              exact ⟨i0, q1, q2, q3⟩
            have hcb2 : CB wo g m f := hcb.of_block (hnew.block _ hg2 (by simp))
            have c1 := hcb2.cell1 (i := 0) (by omega)
            obtain ⟨b1, off1, he1, hc1⟩ := (hsy.sl 0 (by omega)).1 0 (.int .i64 i0) (by rw [hs0]; rfl)
            have hn1 : (f 0).n = 1 := by rw [(hsy.sl 0 (by omega)).2, hs0]; rfl
            rw [he1, hn1] at c1
            simp only [Nat.add_zero] at hc1
            have hb1 := World.block_lt_of_cell? wr _ hc1
            have c2 : wo.cell? ⟨b1, off1, none⟩ = some (.int .i64 i0) := hnew.cell hc1 (by simp)
            have c3 := hout.cell (i := i0) (by omega)
            have c4 := hout.frozen i0
            have hfin := hout.set i0 (.int .i64 1)
            simp only [Nat.zero_mul, Nat.zero_add] at c1
            have hu := Lib.hid hu0
            clear h3 hs0 hn1 hu0 he1 hc1 h2
            have hm1' : (0 : Int) < m := by have := H3.out; omega
            go_wp2
            go_ret2
            refine ⟨hbel.setCell hsz _, ?_⟩
            rw [if_neg (by rw [hm.out]; exact h1)]
            refine ⟨wr.heap.size, fun i => if i = i0 then 1 else 0, hsz, by rw [hlen.out]; rfl, ?_, ?_⟩
            · rw [hlen.out]; exact hfin.congr (fun i hi => by by_cases e : i = i0 <;> simp [e])
            · rw [if_neg (by rw [hm.out, H3.out]; omega), if_pos (by rw [hm.out]; exact H3.out)]
              intro i
              show (if i = i0 then (1 : Int) else 0) = _
              rw [hlen.out]
              by_cases q : i < k
              · have := hu.out i q
                by_cases q2 : i = i0
                · rw [if_pos q2, if_pos ⟨this.2 q2, q⟩]
                · rw [if_neg q2, if_neg (fun q3 => q2 (this.1 q3.1))]
              · rw [if_neg (by omega), if_neg (fun q3 => q q3.2)]
          · have h3' : ((m : Int) == 1) = false := by simp; omega
            have hm3 : 2 ≤ m := by omega
            have hr0 : Row wo g m f ss := (hsy.keep hnew (fun _ _ _ _ _ _ => by simp)).row (hcb.of_block (hnew.block _ hg2 (by simp))) (fun i hi b off sp e e2 => hap i hi b off sp e (by rw [e2]; rfl))
            have hgo : g ≠ wr.heap.size := by omega
            have hcap : m ≤ cv := by
              rcases hB1.apd.own.2 with ⟨_, q⟩ | ⟨g', cap, cur, hv, _, _, q, _⟩
              · omega
              · injection hv with _ _ hv; omega
            have HRO := Lib.hid hrow.out
            have hnb : NB wr.heap.size m f := fun i hi b off s e => by have := hsy.lt i hi b off s e; omega
            clear h2 h3 hcb hsy hap hB1
            have hbo := hout.lt
            generalize wr.heap.size = bo at *
            have hlm := ownA_len l l.length
            go_wp2_with (go_at_call 74; refine (sortStable_any _ hr0.cb (by omega)).mono ?_; rintro e w1 ⟨f1, rfl, hgr1, hc1, hp1, hs1⟩)
            obtain ⟨ss1, hr1, hstab1⟩ := hr0.sorted hgr1 hc1 hp1 hs1
            have hnb1 := hnb.perm hp1
            have hI0 : Hid (rowL m f1 ss1 = rowF (ownA l l.length) 0) := by show _ = stab _; rw [← HRO.out]; exact hstab1
            have hbel1 := hbel.trans (below_grown hgr1 hg1 hbel.size)
            have hout1 := hout.of_block (hgr1.block bo hbo (fun e => hgo (by injection e with e; exact e.symm)))
            have HP1 : Hid (rowL m f1 ss1 = stab (ownA l l.length)) := by show _ = stab _; rw [← HRO.out]; exact hstab1
            clear hnb hr0 hgr1 hc1 hp1 hs1 hstab1 hbel hout hnew
            go_loopw [11, 12, 13, 81] (fun rv _ _ tv wx => ∃ (t nr gr cr : Nat) (fr : Nat → Coin) (sr : Nat → List Int), t + 1 ≤ most ∧ tv = .int .i64 t ∧ rv = .slice (some ⟨gr, 0, none⟩) nr cr ∧ nr ≤ cr ∧ w.heap.size ≤ gr ∧ gr ≠ bo ∧ (t = 0 → gr = g) ∧ Row wx gr nr fr sr ∧ Row wx g m f1 ss1 ∧ Below w.heap.size w wx ∧ wx.rowIs bo 3 k (fun _ => .int .i64 0) ∧ NB bo nr fr ∧ Hid (rowL nr fr sr = rowF (ownA l l.length) t)) (fun _ _ _ tv _ => most - (intOf tv).toNat)
            case atStart => exact ⟨0, m, g, cv, f1, ss1, by omega, rfl, rfl, hcap, hg1, hgo, fun _ => rfl, hr1, hr1, hbel1, hout1, hnb1, hI0⟩
            case round =>
              clear hr1 hI0 hbel1 hout1
              obtain ⟨t, nr, gr, cr, fr, sr, ht, rfl, rfl, hnc, hgr, hgrb, _, hrr, hro, hbel, hout, hnb, hI⟩ := hrel
              have hown1 : 1 ≤ (ownA l l.length).length := by rw [hm.out]; omega
              have hlen2 := (isRow_of hI.out).len_le hown1
              rw [rowL_len, hm.out] at hlen2
              obtain ⟨hlen2, hlen3⟩ := hlen2
              obtain ⟨wo2, rfl⟩ : ∃ wo2 : World, wo2 = wr := ⟨_, rfl⟩
              by_cases hlt2 : t + 1 < most
              · have hd2 : decide ((t : Int) < (most : Int) - 1) = true := by simp; omega
                have hgood := (isRow_of hI.out).good (ownA_good (l := l) (fun x hx => by
                  have := hB.out
                  rw [List.any_eq_false] at this
                  have := this x hx
                  simp [heavyB] at this; omega))
                have hp2 : (2 : Int) ^ t ≤ 65536 := pow_le16 (by omega)
                have hp2n : 2 ^ t ≤ 65536 := by
                  have := Nat.pow_le_pow_right (n := 2) (by omega) (show t ≤ 16 by omega)
                  exact this
                have hcoin : ∀ i, i < nr → 1 ≤ (fr i).w ∧ (fr i).w ≤ 70368744177664 ∧ (sr i).length ≤ 65536 := fun i hi => by
                  have := hgood _ (List.mem_of_getElem? (rowL_get (f := fr) (s := sr) hi))
                  obtain ⟨q1, q2, q3, _⟩ := this
                  simp only at q1 q2 q3
                  exact ⟨q1, by omega, by omega⟩
                have HGD := Lib.hid hcoin
                clear hgood hp2 hp2n hcoin
                go_wp2
                go_loopw [12, 13] (fun pv iv wx => ∃ (j i : Nat) (fp : Nat → Coin) (sp : Nat → List Int) (Ap : Option Addr) (cp : Nat), i ≤ nr + 1 ∧ j ≤ 8192 ∧ iv = .int .i64 i ∧ pv = .slice Ap j cp ∧ Hid (i = 2 * j) ∧ Apd wx wo2.heap.size (.slice Ap j cp) j fp sp ∧ Below wo2.heap.size wo2 wx ∧ NB bo j fp ∧ Hid (rowL j fp sp = (pairsA (rowL nr fr sr)).take j)) (fun _ iv _ => nr + 2 - (intOf iv).toNat)
                case atStart => exact ⟨0, 0, fun _ => ⟨0, none, 0, 0⟩, fun _ => [], none, 0, by omega, by omega, rfl, rfl, rfl, Apd.nil _ _ _ _, Below.refl _ _, NB.nil _ _, rfl⟩
                case round =>
                  obtain ⟨j, i, fp, sp, Ap, cp, hi1, hj1, rfl, rfl, hij, hapd, hb2, hnbp, hrl⟩ := hrel
                  by_cases hlt3 : i + 1 < nr
                  · have hd3 : decide ((i : Int) + 1 < (nr : Int)) = true := by simp; omega
                    have hrr2 := hrr.keepb hb2
                    have a0 := hrr2.cb.cell0 (i := i) (by omega)
                    have a1 := hrr2.cb.cell1 (i := i) (by omega)
                    have b0 := hrr2.cb.cell0 (i := i + 1) (by omega)
                    have b1 := hrr2.cb.cell1 (i := i + 1) (by omega)
                    obtain ⟨x1, x2, x3⟩ := HGD.out i (by omega)
                    obtain ⟨y1, y2, y3⟩ := HGD.out (i + 1) (by omega)
                    obtain ⟨sx, nx⟩ := hrr2.sl i (by omega)
                    obtain ⟨sy, ny⟩ := hrr2.sl (i + 1) (by omega)
                    have HNX := Lib.hid nx
                    have HNY := Lib.hid ny
                    have hsx : (fr i).n ≤ 65536 := by omega
                    have hsy2 : (fr (i+1)).n ≤ 65536 := by omega
                    clear nx ny
                    have hz0 : (0 : Int) ≤ (i : Int) := by omega
                    have hz1 : (i : Int) < (nr : Int) := by omega
                    have hz3 : (0 : Int) ≤ (i : Int) + 1 := by omega
                    have hz4 : (i : Int) + 1 < (nr : Int) := by omega
                    have hz2 : IntKind.i64.wrap ((i : Int) + 1) = (i : Int) + 1 := IntWalk.i64_in _ (by omega)
                    have hz6 : IntKind.i64.wrap ((fr i).w + (fr (i + 1)).w) = (fr i).w + (fr (i + 1)).w := IntWalk.i64_in _ (by omega)
                    have hz5 : ((i : Int) + 1).toNat = i + 1 := by omega
                    have hcat := concatI_any (A := some ⟨wr.heap.size, 0, none⟩) (c := 2) (wr.alloc (.cells #[.slice (fr i).a (fr i).n (fr i).c, .slice (fr (i + 1)).a (fr (i + 1)).n (fr (i + 1)).c] 43)).drew
                      ⟨Sl.new wr [.slice (fr i).a (fr i).n (fr i).c, .slice (fr (i + 1)).a (fr (i + 1)).n (fr (i + 1)).c] 43⟩ (sx.alloc _) (sy.alloc _) (by simp [HNX.out]) (by simp [HNY.out]) (ones _ _) (ones _ _) (by omega) (by omega)
                    have HCAT := Lib.hid hcat
                    have hglo := hrr.cb.lt
                    have hne : some gr ≠ (Value.slice Ap j cp).ownBlock := fun e => by have := (hapd.own.lt gr e.symm).1; omega
                    have hgl := hrr2.cb.lt
                    clear hcat
                    go_wp2
                    go_region_held3 (fun w' => w'.cell? ⟨gr, i * 2, none⟩ = some (.int .i64 (fr i).w) ∧ w'.cell? ⟨gr, i * 2 + 1, none⟩ = some (.slice (fr i).a (fr i).n (fr i).c) ∧
                        w'.cell? ⟨gr, (i + 1) * 2, none⟩ = some (.int .i64 (fr (i + 1)).w) ∧ w'.cell? ⟨gr, (i + 1) * 2 + 1, none⟩ = some (.slice (fr (i + 1)).a (fr (i + 1)).n (fr (i + 1)).c))
                      (first
                        | go_keep
                        | exact ⟨cellK a0 hb4, cellK a1 hb4, cellK b0 hb4, cellK b1 hb4⟩
                        | exact ⟨cellP (cellK a0 hb4) hg5 hne, cellP (cellK a1 hb4) hg5 hne, cellP (cellK b0 hb4) hg5 hne, cellP (cellK b1 hb4) hg5 hne⟩)
                      (first
                        | (go_at_call 38; refine HCAT.out.mono ?_; rintro e w3 ⟨A4, c4, rfl, hown4, hb4⟩)
                        | (refine step_push (by rfl) _ _ _ (by rfl) wo2.heap.size 130 2 32 _ Tryz.underlying128 infoCoin rfl (by omega) (.slice Ap j cp) j (flat j fp) (by rfl) ((own_below (hapd.own.alloc _).drew hb4).alloc _) w3.heap.size 1
                            [.int .i64 ((fr i).w + (fr (i + 1)).w), .slice A4 ((fr i).n + (fr (i + 1)).n) c4] 130 (by rfl) (by rfl) (heap_alloc_new w3 _) (by simp [Value.oneCell']) (by unfold maxLen; omega) (by omega) (by have q1 := hb4.size; have q2 := hb2.size; simp at q1 ⊢; omega) (w3.heap.size + 1) (by simp) ?_
                           intro gg cap w5 hown5 hg5 hat5 hlt5))
                    obtain ⟨hapd2, hbb⟩ := hapd.pushcat (s := sr i ++ sr (i + 1)) hb4 (by simpa using hown4) (by rw [HNX.out, HNY.out, List.length_append]) hg5 hown5 hat5
                    have hbs := hb2.size
                    have hbo2 := hout.lt
                    have hnbp2 := hnbp.push ⟨(fr i).w + (fr (i + 1)).w, A4, (fr i).n + (fr (i + 1)).n, c4⟩ (fun b off s e => by
                      have := (hown4.lt b (by rw [show A4 = some ⟨b, off, s⟩ from e]; rfl)).1
                      simp at this; omega)
                    have hb5 : Below wo2.heap.size wo2 w5 := by
                      rcases hbb with q | q
                      · exact hb2.trans q
                      · omega
                    have hrl2 : Hid (rowL (j + 1) (fun q => if q = j then ⟨(fr i).w + (fr (i + 1)).w, A4, (fr i).n + (fr (i + 1)).n, c4⟩ else fp q) (fun q => if q = j then sr i ++ sr (i + 1) else sp q) = (pairsA (rowL nr fr sr)).take (j + 1)) := by
                      show _ = _
                      have hij2 := hij.out
                      have hg := pairsA_get (rowL nr fr sr) j (by rw [rowL_len]; omega)
                      rw [rowL_push, hrl.out, take_snoc hg]
                      congr 2
                      simp only [List.getD, ← hij2, rowL_get (f := fr) (s := sr) (show i < nr by omega), rowL_get (f := fr) (s := sr) (show i + 1 < nr by omega), Option.getD_some]
                    have hij3 : Hid (i + 2 = 2 * (j + 1)) := by show _ = _; have := hij.out; omega
                    have hj3 : j + 1 ≤ 8192 := by have := hij.out; omega
                    clear hapd hb2 hrl hij hbb hown4 hb4 hown5 hg5 hat5 HCAT hne hz0 hz1 hz2 hz3 hz4 hz5 hz6
                    go_wp2
                    go_roundw
                    case rel => exact ⟨j + 1, i + 2, _, _, _, cap, by omega, hj3, by go_num, rfl, hij3, hapd2, hb5, hnbp2, hrl2⟩
                    case measure => simp [intOf]; omega
                  · have hd3 : decide ((i : Int) + 1 < (nr : Int)) = false := by simp; omega
                    have hjn : Hid (rowL j fp sp = pairsA (rowL nr fr sr)) := by
                      show _ = _
                      have := hij.out
                      rw [hrl.out, List.take_of_length_le (by rw [pairsA_len, rowL_len]; omega)]
                    have hro2 := hro.keepb hb2
                    have hcat := concatC_any (A := some ⟨wr.heap.size, 0, none⟩) (c := 2) (wr.alloc (.cells #[.slice (some ⟨g, 0, none⟩) m cv, .slice Ap j cp] 128))
                      ⟨Sl.new wr [.slice (some ⟨g, 0, none⟩) m cv, .slice Ap j cp] 128⟩ ((CB.sl hro2.cb).alloc _) ((Sl.of_own hapd.own).alloc _) (flat_len _ _) (flat_len _ _) (flat_one _ _) (flat_one _ _) (by omega) (by omega)
                    have HCAT := Lib.hid hcat
                    have hbs := hb2.size
                    have hbo2 := hout.lt
                    clear hcat
                    go_wp2_with (go_at_call 75; refine HCAT.out.mono ?_; rintro e w6 ⟨A6, c6, rfl, hown6, hb6⟩)
                    have hc6 := own_cap hown6 (by omega)
                    obtain ⟨g6, c6', hv6, hg6, hg6b⟩ := hown6.form (by omega)
                    injection hv6 with hv6 _ hc6e
                    subst hv6 hc6e
                    have hg6' : wr.heap.size < g6 := by simp at hg6; omega
                    have hr6 := Row.joined hro2.syms hapd.sy hb6 hown6 hg6'
                    have hb7 : Below wr.heap.size wr w6 := ((Below.refl wr.heap.size wr).alloc (Nat.le_refl _) _).trans (hb6.mono (by simp))
                    have hb9 : Below wo2.heap.size wo2 w6 := hb2.trans (hb7.mono hbs)
                    have hgl0 := hro.cb.lt
                    clear HCAT hb6 hown6 hb7 hb2 hapd hro2
                    go_wp2_with (go_at_call 74; refine (sortStable_any _ hr6.cb (by omega)).mono ?_; rintro e w7 ⟨f7, rfl, hgr7, hc7, hp7, hs7⟩)
                    obtain ⟨ss7, hr7, hstab7⟩ := hr6.sorted hgr7 hc7 hp7 hs7
                    have hnb7 := (hnb1.comb hnbp).perm hp7
                    have hI7 : Hid (rowL (m + j) f7 ss7 = rowF (ownA l l.length) (t + 1)) := by
                      show _ = stab _
                      rw [hstab7, rowL_comb, hjn.out, HP1.out, hI.out]
                    have hb11 : Below wo2.heap.size wo2 w7 := hb9.trans (below_grown hgr7 (by omega) (by have := hb9.size; omega))
                    have hro7 := hro.keepb hb11
                    have hout7 := hout.of_block (hb11.block bo hbo2)
                    have hb10 : Below w.heap.size w w7 := hbel.trans (hb11.mono hbel.size)
                    clear hgr7 hc7 hp7 hs7 hstab7 hr6 hb9 hb11
                    go_wp2
                    go_roundw
                    case rel => exact ⟨t + 1, m + j, g6, c6, f7, ss7, by omega, by go_num, rfl, hc6, by omega, by omega, fun q => by omega, hr7, hro7, hb10, hout7, hnb7, hI7⟩
                    case measure => simp [intOf]; omega
              · have hd2 : decide ((t : Int) < (most : Int) - 1) = false := by simp; omega
                obtain rfl : t = most - 1 := by omega
                have hgd := (isRow_of hI.out).good (ownA_good (l := l) (fun x hx => by
                  have := hB.out
                  rw [List.any_eq_false] at this
                  have := this x hx
                  simp [heavyB] at this; omega))
                have hp2n : 2 ^ (most - 1) ≤ 65536 := Nat.pow_le_pow_right (n := 2) (by omega) (show most - 1 ≤ 16 by omega)
                have HGD := Lib.hid hgd
                have hocc := Lib.hid (occ_len (R := rowL nr fr sr) (fun c hc => Nat.le_trans (hgd c hc).2.2.1 hp2n))
                have henough := (isRow_of hI.out).enough hown1 (by rw [hm.out, show most - 1 + 1 = most by omega]; omega)
                rw [rowL_len, hm.out] at henough
                clear hgd hp2n
                have ht2 : ((most - 1 : Nat) : Int) = (most : Int) - 1 := by omega
                have HT2 := Lib.hid ht2
                clear ht2
                go_wp2
                go_loopw [15, 17, 134] (fun _ _ qv wx => ∃ q : Nat, q ≤ 2 * m - 2 ∧ qv = .int .i64 q ∧ Row wx gr nr fr sr ∧ Below w.heap.size w wx ∧ wx.rowIs bo 3 k (fun i => .int .i64 (((occ (rowL nr fr sr) q).count (i : Int) : Nat) : Int))) (fun _ _ qv _ => 2 * m - 2 - (intOf qv).toNat)
                case atStart => exact ⟨0, by omega, rfl, hrr, hbel, hout.congr (fun i hi => by simp [occ])⟩
                case round =>
                  clear hrr hro hbel hout
                  obtain ⟨q, hq, rfl, hrr, hbel, hout⟩ := hrel
                  obtain ⟨wq, rfl⟩ : ∃ wq : World, wq = wr := ⟨_, rfl⟩
                  by_cases hlt3 : q < 2 * m - 2
                  · have hd3 : decide ((q : Int) < ((2 * m - 2 : Nat) : Int)) = true := by simp; omega
                    have c0 := hrr.cb.cell0 (i := q) (by omega)
                    have c1 := hrr.cb.cell1 (i := q) (by omega)
                    obtain ⟨hsl, hnn⟩ := hrr.sl q (by omega)
                    have HNN := Lib.hid hnn
                    have hoc := hocc.out q
                    have hgq := HGD.out _ (List.mem_of_getElem? (rowL_get (f := fr) (s := sr) (show q < nr by omega)))
                    have hp2n : 2 ^ (most - 1) ≤ 65536 := Nat.pow_le_pow_right (n := 2) (by omega) (show most - 1 ≤ 16 by omega)
                    have hsq : (fr q).n ≤ 65536 := by have := hgq.2.2.1; simp only at this; omega
                    have HSY := Lib.hid hgq.2.2.2
                    have hoc2 : (occ (rowL nr fr sr) q).length ≤ 536870912 := Nat.le_trans hoc (Nat.le_trans (Nat.mul_le_mul_right 65536 (show q ≤ 8192 by omega)) (by decide))
                    have HOC := Lib.hid hoc2
                    clear hnn hoc hgq hp2n hoc2
                    have hbq := hbel.size
                    have hbo3 := hout.lt
                    go_wp2
                    go_loopw [17, 141] (fun _ ev wx => ∃ e : Nat, e ≤ (fr q).n ∧ ev = .int .i64 e ∧ wq.grownBy wx (some bo) ∧ wx.rowIs bo 3 k (fun i => .int .i64 (((occ (rowL nr fr sr) q ++ (sr q).take e).count (i : Int) : Nat) : Int))) (fun _ ev _ => (fr q).n - (intOf ev).toNat)
                    case atStart => exact ⟨0, by omega, rfl, World.grownBy_alloc _ _ _, (hout.alloc _).congr (fun i hi => by simp)⟩
                    case round =>
                      clear hout
                      obtain ⟨e, he, rfl, hgw, hout⟩ := hrel
                      by_cases hlt4 : e < (fr q).n
                      · have hd4 : decide ((e : Int) < ((fr q).n : Int)) = true := by simp; omega
                        have he2 : e < (sr q).length := by have := HNN.out; omega
                        have hse : (sr q)[e]? = some (sr q)[e] := List.getElem?_eq_getElem he2
                        have hsb := HSY.out _ (List.getElem_mem he2)
                        rw [hlen.out] at hsb
                        generalize (sr q)[e] = sv at hse hsb
                        have HSE := Lib.hid hse
                        clear hse
                        obtain ⟨bs, offs, hAs, hcs⟩ := hsl e (.int .i64 sv) (by rw [List.getElem?_map, HSE.out]; rfl)
                        have hnbs := hnb q (by omega) bs offs none hAs
                        obtain ⟨sn, rfl⟩ : ∃ sn : Nat, sv = sn := ⟨sv.toNat, by omega⟩
                        have hcs2 := hgw.cell hcs (fun e2 => hnbs (by injection e2))
                        have d0 := hout.cell (i := sn) (by omega)
                        have d1 := hout.frozen sn
                        have hset := hout.set sn (.int .i64 ((((occ (rowL nr fr sr) q ++ (sr q).take e).count (sn : Int) : Nat) : Int) + 1))
                        have hcle : (occ (rowL nr fr sr) q ++ (sr q).take e).count (sn : Int) ≤ 536936448 := by
                          refine Nat.le_trans List.count_le_length ?_
                          rw [List.length_append, List.length_take]
                          have := HOC.out
                          omega
                        have hset2 := hset.congr (g := fun i => .int .i64 (((occ (rowL nr fr sr) q ++ (sr q).take (e + 1)).count (i : Int) : Nat) : Int)) (fun i hi => by
                          rw [take_snoc HSE.out, ← List.append_assoc, count_snoc]
                          by_cases q2 : i = sn
                          · rw [if_pos q2, q2, if_pos rfl]; exact eint (by omega)
                          · rw [if_neg q2, if_neg (by omega)]; exact eint (by omega))
                        have hgw2 := grown_set hgw sn (.int .i64 ((((occ (rowL nr fr sr) q ++ (sr q).take e).count (sn : Int) : Nat) : Int) + 1))
                        generalize (occ (rowL nr fr sr) q ++ (sr q).take e).count (sn : Int) = cn at *
                        have hsn1 : (sn : Int) < k := hsb.2
                        clear hset hcs hout hsb
                        go_wp2
                        go_roundw
                        case rel => exact ⟨e + 1, by omega, by go_num, hgw2, hset2⟩
                        case measure => simp [intOf]; omega
                      · obtain rfl : e = (fr q).n := by omega
                        have hd4 : decide (((fr q).n : Int) < ((fr q).n : Int)) = false := by simp
                        have hrr3 := hrr.turned hgw hgrb hnb
                        have hbel3 : Below w.heap.size w wr := hbel.trans (below_grown hgw hsz hbq)
                        have hout3 := hout.congr (g := fun i => .int .i64 (((occ (rowL nr fr sr) (q + 1)).count (i : Int) : Nat) : Int)) (fun i hi => by
                          have := HNN.out
                          rw [occ_succ (rowL_get (f := fr) (s := sr) (show q < nr by omega)), List.take_of_length_le (by omega)])
                        clear hrr hout hgw
                        go_wp2
                        go_roundw
                        case rel => exact ⟨q + 1, by omega, by go_num, hrr3, hbel3, hout3⟩
                        case measure => simp [intOf]; omega
                  · obtain rfl : q = 2 * m - 2 := by omega
                    have hd3 : decide (((2 * m - 2 : Nat) : Int) < ((2 * m - 2 : Nat) : Int)) = false := by simp
                    go_wp2
                    go_ret2
                    refine ⟨hbel, ?_⟩
                    rw [if_neg (by rw [hm.out]; exact h1)]
                    refine ⟨bo, _, hsz, by rw [hlen.out]; rfl, by rw [hlen.out]; exact hout, ?_⟩
                    rw [if_neg (by rw [hm.out]; omega), if_neg (by rw [hm.out]; omega)]
                    refine ⟨rowL nr fr sr, hI.out, fun i => ?_⟩
                    rw [hm.out]
end Go.Proofs.YtmgbjgjlddifaaaGreat.Bld
