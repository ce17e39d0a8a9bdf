/-
  The walk of the law PrefixBuilds: the lengths make a full code of the least weight, within the limit.
-/
import Derived.Test.YtpecemkjoklhfaaLstB
import Derived.Test.YtpecemkjoklhfaaLstC
import Derived.Test.YtpecemkjoklhfaaWakA
set_option linter.unusedVariables false
set_option linter.unusedSimpArgs false
namespace Go.Proofs.Ytpecemkjoklhfaa.LawB
open Go.RowKit K Pfx Bits Bld Wak Lst

/-- what Build answers, beside the reference's Bad -/
structure BL (w : World) (l : List Int) (mo er : Int) (X : Option Addr) (nx : Nat) (w' : World) : Prop where
  bel : Below w.heap.size w w'
  err : er = badM l mo
  bad : er ≠ 0 → nx = 0
  ok : er = 0 → nx = l.length ∧ ∃ o, SI w' .i64 X nx ((List.range l.length).map o) ∧ OkB l mo o
def BLPost (w : World) (l : List Int) (mo : Int) (e : Ending) (w' : World) : Prop := ∃ er X nx cx, e = .returned (.tuple #[.slice X nx cx, .int .i64 er]) ∧ BL w l mo er X nx w'
theorem build_law {A : Option Addr} {n c : Nat} {mo : Int} {l : List Int} (w : World) (HA : SI w .i64 A n l) : Calls Try.prog 16 #[.slice A n c, .int .i64 mo] w (BLPost w l mo) := by
  have hlen := HA.len
  have hh : heavyB = heavyC := rfl
  by_cases h1 : 4096 < n
  · refine (build_long w HA h1).mono ?_
    rintro e w' ⟨rfl, rfl⟩
    exact ⟨3, _, _, _, rfl, Below.refl _ _, by unfold badM; rw [if_pos (by omega)], fun _ => rfl, fun h => by omega⟩
  · by_cases h2 : mo < 1 ∨ 16 < mo ∨ l.any heavyB = true
    · refine (build_range w HA (by omega) h2).mono ?_
      rintro e w' ⟨rfl, rfl⟩
      refine ⟨2, _, _, _, rfl, Below.refl _ _, ?_, fun _ => rfl, fun h => by omega⟩
      unfold badM
      rw [if_neg (by omega)]
      by_cases h3 : mo < 1 ∨ 16 < mo
      · rw [if_pos h3]
      · rw [if_neg h3, if_pos (by rw [← hh]; rcases h2 with h | h | h <;> first | omega | exact h)]
    · obtain ⟨most, rfl⟩ : ∃ m : Nat, mo = m := ⟨mo.toNat, by omega⟩
      have h3 : l.any heavyB = false := by
        cases h : l.any heavyB with
        | false => rfl
        | true => exact absurd (.inr (.inr h)) h2
      have hp : (ownA l l.length).length = (posL l l.length).length := by rw [← ownA_pos l l.length (Nat.le_refl _), List.length_map]
      have hbad : badM l most = if 2 ^ most < (posL l l.length).length then 31 else 0 := by
        unfold badM
        rw [if_neg (by omega), if_neg (by omega), ← hh, h3, if_neg (by simp)]; rfl
      refine (build_ok w HA (by omega) (by omega) (by omega) h3).mono ?_
      rintro e w' ⟨hb, h⟩
      by_cases h4 : 2 ^ most < (ownA l l.length).length
      · rw [if_pos h4] at h
        exact ⟨31, _, _, _, h, hb, by rw [hbad, if_pos (by omega)], fun _ => rfl, fun h => by omega⟩
      · rw [if_neg h4] at h
        obtain ⟨b, o, hlo, he, hr, ho⟩ := h
        refine ⟨0, _, _, _, he, hb, by rw [hbad, if_neg (by omega)], fun h => absurd rfl h, fun _ => ⟨rfl, o, ?_, ok_of (by omega) h3 (by omega) (by omega) h4 ho⟩⟩
        exact SI.of_row hr (by show _ * 8 ≤ _; have := HA.big; omega)
def LawPost (w : World) (e : Ending) (w' : World) : Prop := e = .returned (.bool true) ∧ Below w.heap.size w w'
set_option maxRecDepth 20000 in
set_option maxHeartbeats 4000000 in
theorem prefixBuilds_any {A : Option Addr} {n c : Nat} {mo : Int} {l : List Int} (w : World) (HA : SI w .i64 A n l) :
    Calls Try.prog 4 #[.slice A n c, .int .i64 mo] w (LawPost w) := by
  have hbig := HA.big
  have hlen := Lib.hid HA.len
  go_enter Try.func4, Try.ntmps4
  go_wp2_with fail
  refine (wakes_any _).mono ?_
  rintro e w1 ⟨rfl, hb1⟩
  have HA1 := HA.below hb1 (Nat.le_refl _)
  have HAO := Lib.hid HA
  clear HA
  go_wp2_with fail
  refine (own_any _ HA1).mono ?_
  rintro e w2 ⟨A2, c2, rfl, hown2, hb2⟩
  have hs2 : SI w2 .i64 A2 n l := SI.of_own hown2 hbig
  have Hb2 := hb1.trans (hb2.mono hb1.size)
  clear hown2 hb2 HA1 hb1
  go_wp2_with fail
  refine (build_law _ hs2).mono ?_
  rintro e w3 ⟨er, X, nx, cx, rfl, h3⟩
  have Hb3 := Hb2.trans (h3.bel.mono Hb2.size)
  have HA3 := HAO.out.below Hb3 (Nat.le_refl _)
  have HERR := Lib.hid h3.err
  have HB3 := Lib.hid Hb3
  have HBL := Lib.hid h3
  clear hs2 Hb2 h3 Hb3
  go_wp2_with fail
  refine (rbad_any _ HA3).mono ?_
  rintro e w4 ⟨rfl, rfl⟩
  rw [← HERR.out]
  have q1 : (er != er) = false := by simp
  by_cases he : er = 0
  · subst he
    obtain ⟨rfl, o, hsL, hok⟩ := HBL.out.ok rfl
    have hn : l.length = n := hlen.out
    have HOK := Lib.hid hok
    have HSL := Lib.hid hsL
    have hl4 := hok.len
    have hlo := hok.lo
    have hhi := hok.hi
    clear hsL hok HBL HERR
    obtain rfl : n = l.length := hn.symm
    clear hn
    have q2 : ((l.length : Int) != (l.length : Int)) = false := by simp
    have HA3' := Lib.hid HA3
    clear HA3
    go_wp2
    go_loopw [8, 9, 40] (fun sn ss si wr => ∃ k q : Nat, k ≤ l.length ∧ si = .int .i64 k ∧ sn = .int .i64 (posL l k).length ∧ ss = .int .i64 (rs l o k) ∧ 0 ≤ rs l o k ∧ rs l o k ≤ k * 17179869184 ∧ w3.drewN q = wr) (fun _ _ si _ => l.length - (intOf si).toNat)
    case atStart => exact ⟨0, 0, by omega, rfl, rfl, rfl, by simp [rs], by simp [rs], rfl⟩
    case round =>
      obtain ⟨k, q, hk, rfl, rfl, rfl, hr0, hr1, rfl⟩ := hrel
      have hpl := posL_le l k
      by_cases hlt : k < l.length
      · have hd : decide ((k : Int) < (l.length : Int)) = true := by simp; omega
        obtain ⟨b1, o1, x, rfl, hc1, hx, -⟩ := HA3'.out.cells hlt
        obtain ⟨b2, o2, y, rfl, hc2, hy, -⟩ := HSL.out.cells hlt
        have hf := HOK.out.fit k hlt
        have hyo : y = o k := by
          have := hy.out
          rw [List.getElem?_map, List.getElem?_range hlt] at this
          injection this with this; exact this.symm
        have hgx := getD_of hx.out 0
        rw [hgx, ← hyo] at hf
        have HYO := Lib.hid hyo
        have HGX := Lib.hid hgx
        have hxb : ¬ heavyC x = true := List.any_eq_false.1 HOK.out.good x (List.mem_of_getElem? hx.out)
        have hxb2 : 0 ≤ x ∧ x ≤ 1073741824 := by simp [heavyC] at hxb; omega
        obtain ⟨f1, f2, f3⟩ := hf
        have HF3 := Lib.hid f3
        have hps := Lib.hid (posL_succ hx.out)
        have hrs := rs_succ l o k
        rw [hgx, ← hyo] at hrs
        clear hyo hgx hxb f3
        have t1 : decide (y < 0) = false := by simp; omega
        have t2 : decide (mo < y) = false := by simp; omega
        by_cases h0 : 0 < x
        · have hy0 : 0 < y := HF3.out.2 h0
          have t3 : decide (0 < y) = true := by simpa using hy0
          have t4 : decide (0 < x) = true := by simpa using h0
          have hm0 : 0 ≤ x * y := Int.mul_nonneg hxb2.1 f1
          have hm1 : x * y ≤ 1073741824 * 16 := Int.mul_le_mul hxb2.2 (by omega) f1 (by omega)
          rw [if_pos h0] at hrs
          have HRS := Lib.hid hrs
          have e : Hid ((posL l (k + 1)).length = (posL l k).length + 1) := by show _ = _; rw [hps.out, if_pos h0, List.length_append]; rfl
          clear hrs h0 hy0
          go_wp2
          go_quiet (fail)
          go_wp2
          go_quiet (fail)
          go_wp2
          go_roundw
          case rel => exact ⟨k + 1, _, by omega, by go_num, eint (by rw [e.out]; omega), eint (by rw [HRS.out]), by rw [HRS.out]; omega, by rw [HRS.out]; push_cast; omega, rfl⟩
          case measure => simp [intOf]; omega
        · have hy0 : ¬ 0 < y := fun h => h0 (HF3.out.1 h)
          have t3 : decide (0 < y) = false := by simpa using hy0
          have t4 : decide (0 < x) = false := by simpa using h0
          rw [if_neg h0, Int.add_zero] at hrs
          have HRS := Lib.hid hrs
          have e : Hid ((posL l (k + 1)).length = (posL l k).length) := by show _ = _; rw [hps.out, if_neg h0, List.append_nil]
          clear hrs h0 hy0
          go_wp2
          go_quiet (fail)
          go_wp2
          go_roundw
          case rel => exact ⟨k + 1, _, by omega, by go_num, eint (by rw [e.out]), eint (by rw [HRS.out]), by rw [HRS.out]; omega, by rw [HRS.out]; push_cast; omega, rfl⟩
          case measure => simp [intOf]; omega
      · have hd : decide ((k : Int) < (l.length : Int)) = false := by simp; omega
        obtain rfl : k = l.length := by omega
        have hroom := room_of (o := o) (n := l.length) hl4 (fun i hi => by have := HOK.out.fit i hi; omega)
        have HROOM := Lib.hid hroom
        have HSW : Hid (SI (w3.drewN q) .i64 X l.length ((List.range l.length).map o)) := SI.below HSL.out (below_drewN (Below.refl w3.heap.size w3) q) (Nat.le_refl _)
        have HAW : Hid (SI (w3.drewN q) .i64 A l.length l) := SI.below HA3'.out (below_drewN (Below.refl w3.heap.size w3) q) (Nat.le_refl _)
        have HBW : Hid (Below w.heap.size w (w3.drewN q)) := below_drewN HB3.out q
        clear hroom
        generalize w3.drewN q = W at *
        go_wp2_with fail
        refine (rroom_any _ HSW.out).mono ?_
        rintro e w5 ⟨rfl, rfl⟩
        rw [HROOM.out]
        by_cases p0 : (posL l l.length).length = 0
        · rw [p0]
          clear p0
          go_wp2
          go_ret
          exact ⟨rfl, HBW.out⟩
        by_cases p1 : (posL l l.length).length = 1
        · have hone := HOK.out.one p1
          rw [p1, hone]
          clear p0 p1 hone
          go_wp2
          go_ret
          exact ⟨rfl, HBW.out⟩
        have hF := HOK.out.two (by omega)
        have hroom := hF.room
        rw [hroom]
        have HS := Lib.hid hF.sum
        have HLE := Lib.hid HOK.out.le
        have HG := Lib.hid HOK.out.good
        have hp2 : 2 ≤ (posL l l.length).length := by omega
        obtain ⟨most, rfl⟩ : ∃ m : Nat, mo = m := ⟨mo.toNat, by omega⟩
        have t5 : (((posL l l.length).length : Int) == 0) = false := by rw [beq_eq_false_iff_ne]; omega
        have t6 : (((posL l l.length).length : Int) == 1) = false := by rw [beq_eq_false_iff_ne]; omega
        clear hF hroom p0 p1
        go_wp2_with fail
        refine (least_any (most := most) _ HAW.out hl4 HG.out (by omega) (by omega) hp2 (by have := HLE.out; simpa using this)).mono ?_
        rintro e w6 ⟨hb6, WW, hWW, rfl⟩
        have hsum := HS.out WW (by simpa using hWW)
        have hsum2 : rs l o l.length = (WW.take (2 * (posL l l.length).length - 2)).sum := hsum
        rw [← hsum2]
        have HB6 := Lib.hid (HBW.out.trans (hb6.mono HBW.out.size))
        have t7 : (rs l o l.length == rs l o l.length) = true := by simp
        clear hsum hsum2 hb6 hWW
        go_wp2
        go_ret
        exact ⟨rfl, HB6.out⟩
  · have hb : (er != 0) = true := by simp [he]
    obtain rfl : nx = 0 := HBL.out.bad he
    clear he HBL HA3
    go_wp2
    go_ret
    exact ⟨rfl, HB3.out⟩
end Go.Proofs.Ytpecemkjoklhfaa.LawB
