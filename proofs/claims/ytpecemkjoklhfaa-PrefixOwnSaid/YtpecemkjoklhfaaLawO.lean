/-
  The walk of the law PrefixOwn: what is handed in stays, what is answered is new memory.
-/
import Derived.Test.YtpecemkjoklhfaaOwnA
import Derived.Test.YtpecemkjoklhfaaWakA
import Derived.Test.YtpecemkjoklhfaaRefX
set_option linter.unusedVariables false
set_option linter.unusedSimpArgs false
namespace Go.Proofs.Ytpecemkjoklhfaa.LawO
open Go.RowKit K Pfx Bits Bld Wak Ref RefT RefR RefX Own

theorem below_row {w wr : World} {row : Option Nat} {B : Nat} (h : w.grownBy wr row) (hB : ∀ b, row = some b → B ≤ b) (hs : B ≤ w.heap.size) : Below B w wr := (Below.refl B w).grown h hs hB
theorem blk_of {X : Option Addr} {b : Nat} (h : X = some ⟨b, 0, none⟩) : blk X = some b := by rw [h]; rfl
theorem keepD {w w' : World} {d : Nat} {l : List Int} {A : Option Addr} {c : Nat} {row : Option Nat} (hD : Dc w d l A c) (hg : w.grownBy w' row) (h1 : some d ≠ row) (h2 : ∀ b off s, A = some ⟨b, off, s⟩ → some b ≠ row) : Dc w' d l A c :=
  hD.keep (hg.block d hD.row.lt h1) (fun b off s e hlt => hg.block b hlt (h2 b off s e))
def LawPost (w : World) (e : Ending) (w' : World) : Prop := e = .returned (.bool true) ∧ Below w.heap.size w w'
set_option maxRecDepth 20000 in
set_option maxHeartbeats 4000000 in
theorem prefixOwn_any {A : Option Addr} {n c : Nat} {mo : Int} {l : List Int} (w : World) (HA : SI w .i64 A n l) :
    Calls Try.prog 6 #[.slice A n c, .int .i64 mo] w (LawPost w) := by
  have hbig := HA.big
  have hlen := Lib.hid HA.len
  go_enter Try.func6, Try.ntmps6
  go_wp2_with fail
  refine (wakes_any _).mono ?_
  rintro e w1 ⟨rfl, hb1⟩
  have HA1 := HA.below hb1 (Nat.le_refl _)
  have HAO := Lib.hid HA
  clear HA
  go_wp2_with fail
  refine (own_any _ HA1).mono ?_
  rintro e w2 ⟨A2, c2, rfl, hown2, hb2⟩
  have HA2 := HA1.below hb2 (Nat.le_refl _)
  have hsz1 := hb1.size
  have hsz2 := hb2.size
  have Hb2 := Lib.hid (hb1.trans (hb2.mono hb1.size))
  clear HA1 hb1
  go_wp2_with (at_builtin; refine wpList_append_sl _ rfl (.tmp 28) (.tmp 29) _ rfl w1.heap.size 3 1 8 _ Try.underlying22 infoInt rfl (by omega) (.slice A2 n c2) n _ rfl (hown2.alloc _) _ 1 1 [.int .i64 77] rfl rfl (Sl.one w2 _ _) ?c1 ?c2 ?c3 ?c4 ?_)
  case c1 => simp [Value.oneCell']
  case c2 => unfold maxLen; omega
  case c3 => omega
  case c4 => simp; omega
  intro v3 w3 hown3 hg3 _
  have hb3 : Below w1.heap.size w2 w3 := ((Below.refl w1.heap.size w2).alloc hsz2 _).grown hg3 (by simp; omega) (fun k hk => (hown2.lt k hk).1)
  have hown3' : w3.ownsRow w1.heap.size 3 1 v3 (n + 1) ((l ++ [77]).map (.int .i64)) := by simpa using hown3
  obtain ⟨g, c3, rfl, hglo, hcap, hmax⟩ : ∃ g c3, v3 = .slice (some ⟨g, 0, none⟩) (n + 1) c3 ∧ w1.heap.size ≤ g ∧ n + 1 ≤ c3 ∧ c3 ≤ maxLen := by
    rcases hown3'.2 with ⟨-, h0⟩ | ⟨g, cap, cur, hv, h1, h2, h3, h4, -⟩
    · simp at h0
    · exact ⟨g, cap, hv, h1, h3, h4⟩
  have hghi : g < w3.heap.size := (hown3'.lt g rfl).2
  have hsz3 := hb3.size
  have hw3 : Wr w3 (some ⟨g, 0, none⟩) (n + 1) .i64 := Wr.of_own hown3'
  have c77 : w3.cell? ⟨g, n, none⟩ = some (.int .i64 77) := by
    rw [hown3'.cellAt n (by omega)]; have := hlen.out; simp [← this]
  have hs3 : SI w3 .i64 (some ⟨g, 0, none⟩) n l := ⟨hlen.out, hbig, fun j u hu => by
    have hj : j < l.length := by
      rcases Nat.lt_or_ge j l.length with h | h
      · exact h
      · rw [List.getElem?_map, List.getElem?_eq_none h] at hu; cases hu
    refine ⟨g, 0, rfl, ?_⟩
    rw [Nat.zero_add, hown3'.cellAt j (by have := hlen.out; omega), List.map_append, List.getElem?_append_left (by simpa using hj)]
    exact hu⟩
  have Hb3 := Hb2.out.trans (hb3.mono hsz1)
  have HA3 := HAO.out.below Hb3 (Nat.le_refl _)
  clear hb2 hown2 hown3 hg3 hown3' HA2 Hb2 hb3
  have hm3 := hmax
  unfold maxLen at hm3
  go_wp2_with fail
  refine (codes_any _ hs3).mono ?_
  rintro e w4 ⟨Xa, na, ca, rfl, h4⟩
  have hsz4 := h4.bel.size
  have hs4 := hs3.below h4.bel (Nat.le_refl _)
  have HC4 := Lib.hid h4
  clear h4
  go_wp2_with fail
  refine (codes_any _ hs4).mono ?_
  rintro e w5 ⟨Xb, nb, cb, rfl, h5⟩
  have hsz5 := h5.bel.size
  have hs5 := hs4.below h5.bel (Nat.le_refl _)
  have HC5 := Lib.hid h5
  clear h5
  go_wp2_with fail
  refine (build_any _ hs5).mono ?_
  rintro e w6 ⟨Xx, nx, cx, ex, rfl, h6⟩
  have hsz6 := h6.bel.size
  have hs6 := hs5.below h6.bel (Nat.le_refl _)
  have HC6 := Lib.hid h6
  clear h6
  go_wp2_with fail
  refine (new_any _ hs6).mono ?_
  rintro e w7 ⟨D, rfl, h7⟩
  have hsz7 := h7.bel.size
  have hs7 := hs6.below h7.bel (Nat.le_refl _)
  have HC7 := Lib.hid h7
  have B37 := HC4.out.bel.trans ((HC5.out.bel.mono hsz4).trans ((HC6.out.bel.mono (Nat.le_trans hsz4 hsz5)).trans (h7.bel.mono (Nat.le_trans hsz4 (Nat.le_trans hsz5 hsz6)))))
  have HA7 := HA3.below B37 (Nat.le_refl _)
  have d77 : w7.cell? ⟨g, n, none⟩ = some (.int .i64 77) := (B37.cell (p := ⟨g, n, none⟩) hghi).trans c77
  have Hb7 := Lib.hid (Hb3.trans (B37.mono Hb3.size))
  have HB37 := Lib.hid B37
  clear h7 B37 hs3 hs4 hs5 hs6 HA3 c77 Hb3
  go_wp2_with fail
  refine (sameInts_any _ hs7 HA7).mono ?_
  rintro e w8 ⟨rfl, q8, rfl⟩
  rw [decide_eq_true (rfl : l = l)]
  have hna : na ≤ n := by rw [HC4.out.len]; split <;> omega
  have hnb : nb ≤ n := by rw [HC5.out.len]; split <;> omega
  have hXa : ∀ b, blk Xa = some b → w3.heap.size ≤ b ∧ b < w4.heap.size := HC4.out.lo
  have HXa := Lib.hid hXa
  have hXb : ∀ b, blk Xb = some b → w4.heap.size ≤ b ∧ b < w5.heap.size := HC5.out.lo
  have HXb := Lib.hid hXb
  have hXx : ∀ b, blk Xx = some b → w5.heap.size ≤ b ∧ b < w6.heap.size := HC6.out.lo
  have HXx := Lib.hid hXx
  have hnx : nx ≤ 4096 := HC6.out.le
  have HWa : Hid (Wr (w7.drewN q8) Xa na .u32) := (HC4.out.wr.below (HC5.out.bel.trans ((HC6.out.bel.mono hsz5).trans (HC7.out.bel.mono (Nat.le_trans hsz5 hsz6))))).keep (row := none) (grown_drewN (World.grownBy.refl _ _) _) (fun _ _ => by simp)
  have HWx : Hid (Wr (w7.drewN q8) Xx nx .i64) := (HC6.out.wr.below HC7.out.bel).keep (row := none) (grown_drewN (World.grownBy.refl _ _) _) (fun _ _ => by simp)
  have HWg : Hid (Wr (w7.drewN q8) (some ⟨g, 0, none⟩) (n + 1) .i64) := (hw3.below HB37.out).keep (row := none) (grown_drewN (World.grownBy.refl _ _) _) (fun _ _ => by simp)
  have Hb8 : Hid (Below w.heap.size w (w7.drewN q8)) := below_drewN Hb7.out _
  have hsz8 : (w7.drewN q8).heap.size = w7.heap.size := rfl
  have HS8 := Lib.hid hsz8
  have HB78 : Hid (Below w7.heap.size w7 (w7.drewN q8)) := below_drewN (Below.refl _ _) _
  clear hXa hXb hXx hw3 hs7 HA7 d77 hsz8
  generalize w7.drewN q8 = w8 at *
  go_wp2
  go_loopw [81] (fun i wr => ∃ k : Nat, k ≤ na ∧ i = .int .i64 k ∧ Wr wr Xa na .u32 ∧ w8.grownBy wr (blk Xa)) (fun i _ => na - (intOf i).toNat)
  case atStart => exact ⟨0, by omega, rfl, HWa.out, World.grownBy.refl _ _⟩
  case round =>
    clear HWa
    obtain ⟨k, hk, rfl, hW, hg9⟩ := hrel
    by_cases hlt : k < na
    · have hd : decide ((k : Int) < (na : Int)) = true := by simp; omega
      obtain ⟨b, v, rfl, hc, hf⟩ := hW.at_ k hlt
      have HW := Lib.hid (hW.set rfl k 99)
      have HG := Lib.hid (grown_set hg9 k (.int .u32 99))
      clear hW hg9
      go_wp2
      go_roundw
      case rel => exact ⟨k + 1, by omega, by go_num, HW.out, HG.out⟩
      case measure => simp [intOf]; omega
    · have hd : decide ((k : Int) < (na : Int)) = false := by simp; omega
      clear hW
      obtain ⟨w9, rfl⟩ : ∃ w9 : World, w9 = wr := ⟨_, rfl⟩
      have HG9 := Lib.hid hg9
      clear hg9
      go_wp2
      have HWx9 : Hid (Wr w9 Xx nx .i64) := HWx.out.keep HG9.out (fun b e e2 => by have := HXa.out b e2.symm; have := HXx.out b (blk_of e); omega)
      have HWg9 : Hid (Wr w9 (some ⟨g, 0, none⟩) (n + 1) .i64) := HWg.out.keep HG9.out (fun b e e2 => by have := HXa.out b e2.symm; injection e with e; injection e with e; omega)
      go_loopw [90] (fun i wr => ∃ k : Nat, k ≤ nx ∧ i = .int .i64 k ∧ Wr wr Xx nx .i64 ∧ w9.grownBy wr (blk Xx)) (fun i _ => nx - (intOf i).toNat)
      case atStart => exact ⟨0, by omega, rfl, HWx9.out, World.grownBy.refl _ _⟩
      case round =>
        clear HWx9
        obtain ⟨k, hk, rfl, hW, hg9⟩ := hrel
        by_cases hlt : k < nx
        · have hd : decide ((k : Int) < (nx : Int)) = true := by simp; omega
          obtain ⟨b, v, rfl, hc, hf⟩ := hW.at_ k hlt
          have HW := Lib.hid (hW.set rfl k (-1))
          have HG := Lib.hid (grown_set hg9 k (.int .i64 (-1)))
          clear hW hg9
          go_wp2
          go_roundw
          case rel => exact ⟨k + 1, by omega, by go_num, HW.out, HG.out⟩
          case measure => simp [intOf]; omega
        · have hd : decide ((k : Int) < (nx : Int)) = false := by simp; omega
          clear hW
          obtain ⟨w10, rfl⟩ : ∃ w10 : World, w10 = wr := ⟨_, rfl⟩
          have HG10 := Lib.hid hg9
          clear hg9
          go_wp2
          have HWg10 : Hid (Wr w10 (some ⟨g, 0, none⟩) (n + 1) .i64) := HWg9.out.keep HG10.out (fun b e e2 => by have := HXx.out b e2.symm; injection e with e; injection e with e; omega)
          go_loopw [99] (fun i wr => ∃ k : Nat, k ≤ n + 1 ∧ i = .int .i64 k ∧ Wr wr (some ⟨g, 0, none⟩) (n + 1) .i64 ∧ w10.grownBy wr (some g)) (fun i _ => n + 1 - (intOf i).toNat)
          case atStart => exact ⟨0, by omega, rfl, HWg10.out, World.grownBy.refl _ _⟩
          case round =>
            clear HWg10
            obtain ⟨k, hk, rfl, hW, hg9⟩ := hrel
            by_cases hlt : k < n + 1
            · have hd : decide ((k : Int) < (n : Int) + 1) = true := by simp; omega
              obtain ⟨b, v, e, hc, hf⟩ := hW.at_ k hlt
              injection e with e
              injection e with e
              subst e
              have HW := Lib.hid (hW.set rfl k 16)
              have HG := Lib.hid (grown_set hg9 k (.int .i64 16))
              clear hW hg9
              go_wp2
              go_roundw
              case rel => exact ⟨k + 1, by omega, by go_num, HW.out, HG.out⟩
              case measure => simp [intOf]; omega
            · have hd : decide ((k : Int) < (n : Int) + 1) = false := by simp; omega
              clear hW
              obtain ⟨w11, rfl⟩ : ∃ w11 : World, w11 = wr := ⟨_, rfl⟩
              have HG11 := Lib.hid hg9
              have s9 := HG9.out.size
              have s10 := HG10.out.size
              have s11 := hg9.size
              have s8 : w7.heap.size ≤ w8.heap.size := Nat.le_of_eq HS8.out.symm
              have hb9 : Below w.heap.size w8 w9 := below_row HG9.out (fun b e => by have := HXa.out b e; omega) (by omega)
              have hb10 : Below w.heap.size w9 w10 := below_row HG10.out (fun b e => by have := HXx.out b e; omega) (by omega)
              have hb11 : Below w.heap.size w10 w11 := below_row hg9 (fun b e => by injection e with e; omega) (by omega)
              have Hb11 := Lib.hid (Hb8.out.trans (hb9.trans (hb10.trans hb11)))
              have HA11 := HAO.out.below Hb11.out (Nat.le_refl _)
              clear hb9 hb10 hb11 hg9
              have HVb : Hid (∀ j, j < nb → ∃ b, Xb = some ⟨b, 0, none⟩ ∧ w11.cell? ⟨b, j, none⟩ = some (.int .u32 (codeAt l j)) ∧ b < w11.heap.size) := fun j hj => by
                obtain ⟨b, e, hc⟩ := HC5.out.val j hj
                have hb5 := HXb.out b (blk_of e)
                have h58 : Below w5.heap.size w5 w8 := HC6.out.bel.trans ((HC7.out.bel.trans (HB78.out.mono hsz7)).mono hsz6)
                have c8 := (h58.cell (p := ⟨b, j, none⟩) hb5.2).trans hc
                have hs58 := h58.size
                have c9 := HG9.out.cell c8 (fun e2 => by have := HXa.out b e2.symm; omega)
                have c10 := HG10.out.cell c9 (fun e2 => by have := HXx.out b e2.symm; omega)
                have c11 := HG11.out.cell c10 (fun e2 => by injection e2 with e2; simp at e2; omega)
                exact ⟨b, e, c11, by omega⟩
              go_wp2_with fail
              refine (rcodes_any _ HA11).mono ?_
              rintro e w12 ⟨Xw, nw, cw, rfl, h12⟩
              obtain rfl : nw = nb := by rw [h12.len, HC5.out.len]
              have HVc : Hid (∀ j, j < nw → ∃ b, Xb = some ⟨b, 0, none⟩ ∧ w12.cell? ⟨b, j, none⟩ = some (.int .u32 (codeAt l j))) := fun j hj => by
                obtain ⟨b, e, hc, hl⟩ := HVb.out j hj
                exact ⟨b, e, (h12.bel.cell (p := ⟨b, j, none⟩) hl).trans hc⟩
              have HVw := Lib.hid h12.val
              have HB12 := Lib.hid h12.bel
              have q3 : ((nw : Int) != (nw : Int)) = false := by simp
              clear h12 HVb HA11
              go_wp2
              go_loopw [118] (fun i wr => ∃ k q : Nat, k ≤ nw ∧ i = .int .i64 k ∧ w12.drewN q = wr) (fun i _ => nw - (intOf i).toNat)
              case atStart => exact ⟨0, 0, by omega, rfl, rfl⟩
              case round =>
                obtain ⟨k, q, hk, rfl, rfl⟩ := hrel
                by_cases hlt : k < nw
                · have hd : decide ((k : Int) < (nw : Int)) = true := by simp; omega
                  obtain ⟨b1, rfl, k1⟩ := HVc.out k hlt
                  obtain ⟨b2, rfl, k2⟩ := HVw.out k hlt
                  generalize codeAt l k = y at k1 k2
                  have hb : (y != y) = false := by simp
                  go_wp2
                  go_quiet (fail)
                  go_wp2
                  go_roundw
                  case rel => exact ⟨k + 1, _, by omega, by go_num, rfl⟩
                  case measure => simp [intOf]; omega
                · have hd : decide ((k : Int) < (nw : Int)) = false := by simp; omega
                  by_cases hc : checkedOf l = 0
                  · have q4 : (checkedOf l != 0) = false := by simp [hc]
                    obtain ⟨rfl, Ad, cd, hD7, hAd⟩ := HC7.out.ok hc
                    have hsh : n ≤ 4096 := by have := (checked_zero hc).1; rw [hlen.out] at this; exact this
                    have hd6 : w6.heap.size < w7.heap.size := hD7.row.lt
                    have hD8 : Dc w8 w6.heap.size l Ad cd := keepD hD7 (grown_below HB78.out none) (by simp) (fun _ _ _ _ => by simp)
                    have hD9 : Dc w9 w6.heap.size l Ad cd := keepD hD8 HG9.out (fun e => by have := HXa.out _ e.symm; omega) (fun b off s e e2 => by have := HXa.out b e2.symm; have := hAd b off s e; omega)
                    have hD10 : Dc w10 w6.heap.size l Ad cd := keepD hD9 HG10.out (fun e => by have := HXx.out _ e.symm; omega) (fun b off s e e2 => by have := HXx.out b e2.symm; have := hAd b off s e; omega)
                    have hD11 : Dc w11 w6.heap.size l Ad cd := keepD hD10 HG11.out (fun e => by injection e with e; omega) (fun b off s e e2 => by injection e2 with e2; have := hAd b off s e; omega)
                    have hD12 : Dc (w12.drewN q) w6.heap.size l Ad cd := keepD (keepD hD11 (grown_below HB12.out none) (by simp) (fun _ _ _ _ => by simp)) (row := none) (grown_drewN (World.grownBy.refl _ _) _) (by simp) (fun _ _ _ _ => by simp)
                    have hAd' := Lib.hid (show ∀ b off s, Ad = some ⟨b, off, s⟩ → b < w7.heap.size from fun b off s e => (hAd b off s e).2)
                    have HD12 := Lib.hid hD12
                    have HBW : Hid (Below w.heap.size w (w12.drewN q)) := below_drewN (Hb11.out.trans (HB12.out.mono Hb11.out.size)) _
                    have s12 : w11.heap.size ≤ (w12.drewN q).heap.size := HB12.out.size
                    clear hD7 hAd hD8 hD9 hD10 hD11 hD12 hc
                    generalize w12.drewN q = W at *
                    go_wp2_with fail
                    refine (newReader_any (l := [0, 0, 0]) _ (SI.lit W .u8 [0, 0, 0] _ (by decide)) true (by decide)).mono ?_
                    rintro e w13 ⟨p, Ar, cr, rfl, hp, hAr, hR13, hb13⟩
                    rw [World.size_alloc] at hp hb13
                    have hDa := HD12.out.keep (w' := w13) (hb13.block _ (by omega) |>.trans (Below.heap_alloc _ _ _ (by omega))) (fun b off s e hlt => (hb13.block b (by omega)).trans (Below.heap_alloc _ _ _ hlt))
                    have HB13 := Lib.hid (HBW.out.trans ((((Below.refl W.heap.size W).alloc (Nat.le_refl _) (.cells #[.int .u8 0, .int .u8 0, .int .u8 0] 5)).trans (hb13.mono (by omega))).mono HBW.out.size))
                    have s13 := hb13.size
                    have hpd : w6.heap.size ≠ p := by omega
                    have hpA : ∀ b off s, Ad = some ⟨b, off, s⟩ → b ≠ p := fun b off s e => by have := hAd'.out b off s e; omega
                    have HPA := Lib.hid hpA
                    have HP := Lib.hid hp
                    clear hb13 hAr hpA
                    go_wp2_with fail
                    refine (next_any _ hDa hR13 hpd HPA.out).mono ?_
                    rintro e w14 ⟨rfl, -, hg14⟩
                    have hpw : w.heap.size ≤ p := by have := HBW.out.size; omega
                    have HB14 := Lib.hid (HB13.out.trans (below_grown hg14 hpw HB13.out.size))
                    have HA14 := HAO.out.below HB14.out (Nat.le_refl _)
                    clear hDa hR13 hg14
                    go_wp2_with fail
                    refine (tabled_any _ HA14 hsh).mono ?_
                    rintro e w15 ⟨hb15, tc, rfl, hT15, -⟩
                    have HB15 := Lib.hid (HB14.out.trans (hb15.mono HB14.out.size))
                    clear hb15 HA14
                    have HT15 := Lib.hid (hT15.below ((Below.refl w15.heap.size w15).alloc (Nat.le_refl _) (.cells #[.int .u8 0, .int .u8 0, .int .u8 0] 5)) (Nat.le_refl _))
                    clear hT15
                    go_wp2_with fail
                    refine (rnext_any (rl := [0, 0, 0]) (at_ := 0) _ HT15.out (SI.lit w15 .u8 [0, 0, 0] _ (by decide)) (by decide) (by omega)).mono ?_
                    rintro e w16 ⟨rfl, hb16⟩
                    rw [World.size_alloc] at hb16
                    have HB16 := Lib.hid (HB15.out.trans ((((Below.refl w15.heap.size w15).alloc (Nat.le_refl _) (.cells #[.int .u8 0, .int .u8 0, .int .u8 0] 5)).trans (hb16.mono (by omega))).mono HB15.out.size))
                    clear hb16
                    rw [← next_eq l (bitAt [0, 0, 0] true) (fun i => (bitAt_bd [0, 0, 0] true i).1)]
                    generalize nextM l (bitAt [0, 0, 0] true) (8 * ([0, 0, 0] : List Int).length) 0 = res at *
                    obtain ⟨y, er, b⟩ := res
                    have t1 : (y == y) = true := by simp
                    have t2 : (er == er) = true := by simp
                    go_wp2
                    go_ret
                    exact ⟨rfl, HB16.out.alloc HB16.out.size _⟩
                  · have q4 : (checkedOf l != 0) = true := by simp [hc]
                    obtain rfl : D = none := HC7.out.bad hc
                    clear hc
                    go_wp2
                    go_ret
                    exact ⟨rfl, below_drewN (Hb11.out.trans (HB12.out.mono Hb11.out.size)) _⟩
end Go.Proofs.Ytpecemkjoklhfaa.LawO
