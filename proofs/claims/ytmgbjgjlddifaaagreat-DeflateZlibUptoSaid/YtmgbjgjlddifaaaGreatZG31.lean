/-
  Texts of this claim, joined by program (AdlM, AdlA, ZlbA). Plain: the Adler sum.
-/
import Derived.Test.YtmgbjgjlddifaaaGreatZG1
import Derived.Test.YtmgbjgjlddifaaaGreatZG14
import Derived.Test.YtmgbjgjlddifaaaGreatZG23
set_option linter.unusedVariables false
set_option linter.unusedSimpArgs false
namespace Go.Proofs.YtmgbjgjlddifaaaGreat.Adl
open Go.RowKit K

def aS (l : List Int) (k : Nat) : Int := 1 + (l.take k).sum
def aT (l : List Int) : Nat → Int
  | 0 => 0
  | k+1 => aT l k + aS l (k+1)
theorem aS_succ {l : List Int} {k : Nat} {x : Int} (h : l[k]? = some x) : aS l (k+1) = aS l k + x := by
  have e : l.take (k+1) = l.take k ++ [x] := by
    rw [List.take_add_one, h]; rfl
  unfold aS; rw [e, List.sum_append]; simp; omega
def adler (l : List Int) : Int := 65536 * (aT l l.length % 65521) + aS l l.length % 65521
theorem adler_bd (l : List Int) : 0 ≤ adler l ∧ adler l < 4294967296 := by unfold adler; omega
/-- the two sums, j bytes behind the last rest -/
structure Ad (l : List Int) (k j : Nat) (s t : Int) : Prop where
  es : s % 65521 = aS l k % 65521
  et : t % 65521 = aT l k % 65521
  s0 : 0 ≤ s
  s1 : s ≤ 65520 + 255 * j
  t0 : 0 ≤ t
  t1 : t ≤ 65520 + 830520 * j
theorem Ad.start (l : List Int) : Ad l 0 0 1 0 := ⟨by simp [aS], rfl, by omega, by omega, by omega, by omega⟩
theorem Ad.step {l : List Int} {k j : Nat} {s t x : Int} (h : Ad l k j s t) (hx : l[k]? = some x) (h0 : 0 ≤ x) (h1 : x < 256) (hj : j < 3000) : Ad l (k+1) (j+1) (s + x) (t + (s + x)) := by
  obtain ⟨a, b, c, d, e, f⟩ := h
  have g := aS_succ hx
  refine ⟨by rw [g]; omega, ?_, by omega, by omega, by omega, by omega⟩
  show _ = (aT l k + aS l (k+1)) % 65521
  rw [g]; omega
theorem Ad.rest {l : List Int} {k j : Nat} {s t : Int} (h : Ad l k j s t) : Ad l k 0 (s % 65521) (t % 65521) := by
  obtain ⟨a, b, c, d, e, f⟩ := h
  exact ⟨by omega, by omega, by omega, by omega, by omega, by omega⟩
theorem Ad.done {l : List Int} {s t : Int} (h : Ad l l.length 0 s t) : 65536 * t + s = adler l ∧ 0 ≤ s ∧ s < 65521 ∧ 0 ≤ t ∧ t < 65521 := by
  obtain ⟨a, b, c, d, e, f⟩ := h
  unfold adler
  omega
end Go.Proofs.YtmgbjgjlddifaaaGreat.Adl
set_option linter.unusedVariables false
set_option linter.unusedSimpArgs false
namespace Go.Proofs.YtmgbjgjlddifaaaGreat.Adl
open Go.RowKit K Bits Def

set_option maxRecDepth 20000 in
set_option maxHeartbeats 4000000 in
theorem adlerOn_any {A : Option Addr} {n c : Nat} {l : List Int} (w : World) (HA : SI w .u8 A n l) (hc : n ≤ c) (hwf : ∀ x ∈ l, 0 ≤ x ∧ x < 256) :
    Calls Tryz.prog 32 #[.int .u32 1, .slice A n c] w fun e w' => e = .returned (.int .u32 (adler l)) ∧ w = w' := by
  have HAA := Lib.hid HA
  have HWF := Lib.hid hwf
  have HLEN := Lib.hid HA.len
  have hbig := HA.bigb
  clear HA hwf
  go_enter Tryz.func32, Tryz.ntmps32
  go_wp2
  go_loopw [1, 5, 6] (fun sb ss st wr => ∃ (k : Nat) (s t : Int) (A1 : Option Addr) (c1 : Nat), k ≤ n ∧ sb = .slice A1 (n - k) c1 ∧ n - k ≤ c1 ∧ c1 ≤ c ∧ ss = .int .u32 s ∧ st = .int .u32 t ∧ SI w .u8 A1 (n - k) (l.drop k) ∧ Ad l k 0 s t ∧ w = wr) (fun sb _ _ _ => lenOf sb)
  case atStart => exact ⟨0, 1, 0, A, c, by omega, rfl, hc, Nat.le_refl _, rfl, rfl, HAA.out, Ad.start l, rfl⟩
  case round =>
    obtain ⟨k, s, t, A1, c1, hk, rfl, hc1, hcc, rfl, rfl, hsi, had, rfl⟩ := hrel
    have HSI := Lib.hid hsi
    have HAD := Lib.hid had
    have hs0 := had.s0
    have hs1 := had.s1
    have ht0 := had.t0
    have ht1 := had.t1
    clear hsi had
    by_cases hlt : k < n
    · have d1 : decide (0 < ((n - k : Nat) : Int)) = true := decide_eq_true (by omega)
      obtain ⟨q, hq⟩ : ∃ q : Nat, q = min (n - k) 3000 := ⟨_, rfl⟩
      have hq1 : q ≤ n - k ∧ q ≤ 3000 ∧ 1 ≤ q := by omega
      have hmin : (if (3000 : Int) < ((n - k : Nat) : Int) then (3000 : Int) else ((n - k : Nat) : Int)) = (q : Int) := by split <;> omega
      clear hq
      go_wp2_with fail
      go_loopw [5, 6, 26] (fun ss st i wr => ∃ (j : Nat) (s t : Int), j ≤ q ∧ ss = .int .u32 s ∧ st = .int .u32 t ∧ i = .int .i64 j ∧ Ad l (k + j) j s t ∧ w = wr) (fun _ _ i _ => q - (intOf i).toNat)
      case atStart => exact ⟨0, s, t, by omega, rfl, rfl, rfl, HAD.out, rfl⟩
      case round =>
        clear HAD hs0 hs1 ht0 ht1
        obtain ⟨j, s, t, hj, rfl, rfl, rfl, had, rfl⟩ := hrel
        have HAD := Lib.hid had
        have hs0 := had.s0
        have hs1 := had.s1
        have ht0 := had.t0
        have ht1 := had.t1
        clear had
        by_cases hlt2 : j < q
        · have d2 : decide ((j : Int) < (q : Int)) = true := decide_eq_true (by omega)
          obtain ⟨x, hx⟩ : ∃ x, l[k + j]? = some x := ⟨_, List.getElem?_eq_getElem (by have := HLEN.out; omega)⟩
          have hxb := HWF.out x (List.mem_of_getElem? hx)
          have hst := HAD.out.step hx hxb.1 hxb.2 (by omega)
          have HST := Lib.hid hst
          obtain ⟨b1, o1, hA1, hcell⟩ := HSI.out.sl j (.int .u8 x) (by rw [List.getElem?_map, List.getElem?_drop, hx]; rfl)
          subst hA1
          clear hx hst
          go_wp2
          refine ⟨⟨j + 1, s + x, t + (s + x), by omega, rfl, rfl, by go_num, HST.out, trivial⟩, ?_⟩
          simp [intOf]; omega
        · obtain rfl : j = q := by omega
          have d2 : decide ((j : Int) < (j : Int)) = false := decide_eq_false (by omega)
          have hcut := SI.cut8 HSI.out hc1 hq1.1
          rw [List.drop_drop, Nat.sub_sub] at hcut
          have HCUT := Lib.hid hcut
          have HRS := Lib.hid HAD.out.rest
          clear hcut
          go_wp2
          refine ⟨⟨k + j, _, _, _, c1 - j, by omega, by rw [Nat.sub_sub]; rfl, by omega, by omega, rfl, rfl, HCUT.out, HRS.out, trivial⟩, ?_⟩
          simp [lenOf]; omega
    · have d1 : decide (0 < ((n - k : Nat) : Int)) = false := decide_eq_false (by omega)
      obtain rfl : k = n := by omega
      have hd := HAD.out
      rw [← HLEN.out] at hd
      have hdn := Lib.hid hd.done
      have hor : bits .or .u32 (t * 65536) s = adler l := by
        obtain ⟨e, g1, g2, g3, g4⟩ := hdn.out
        rw [u32_or_hi 16 _ _ (by omega) (by omega) (by omega) g1 (by omega) (by omega)]
        omega
      go_wp2_with fail
      go_ret
      exact ⟨rfl, rfl⟩
theorem adler_any {A : Option Addr} {n c : Nat} {l : List Int} (w : World) (HA : SI w .u8 A n l) (hc : n ≤ c) (hwf : ∀ x ∈ l, 0 ≤ x ∧ x < 256) :
    Calls Tryz.prog 12 #[.slice A n c] w fun e w' => e = .returned (.int .u32 (adler l)) ∧ w = w' := by
  have HC := Lib.hid (adlerOn_any w HA hc hwf)
  clear HA hwf
  go_enter Tryz.func12, Tryz.ntmps12
  go_wp2_with fail
  refine HC.out.mono ?_
  rintro e w' ⟨rfl, rfl⟩
  go_wp2
  go_ret
  exact ⟨rfl, rfl⟩
end Go.Proofs.YtmgbjgjlddifaaaGreat.Adl
set_option linter.unusedVariables false
set_option linter.unusedSimpArgs false
namespace Go.Proofs.YtmgbjgjlddifaaaGreat.Adl
open Go.RowKit K Bits Def Wrt

/-- a number of 32 bits as four bytes, the greatest first -/
def be4 (v : Int) : List Int := [v / 16777216 % 256, v / 65536 % 256, v / 256 % 256, v % 256]
def zlb (x b : List Int) : List Int := [120, 156] ++ (x ++ be4 (adler b))
theorem cat_zlb {A1 : Option Addr} {c1 : Nat} {x z : List Int} {v0 v1 v2 v3 : Int} (w : World) (T T2 : TypeId) (hx : SI w .u8 A1 x.length x) (bx : x.length ≤ 3000000) (hz : z = [v0, v1, v2, v3]) :
    Calls Tryz.prog 13 #[.slice (some ⟨w.heap.size + 1 + 1, 0, none⟩) 3 3]
      (((w.alloc (.cells #[.int .u8 120, .int .u8 156] T)).alloc (.cells #[.int .u8 v0, .int .u8 v1, .int .u8 v2, .int .u8 v3] T)).alloc (.cells #[.slice (some ⟨w.heap.size, 0, none⟩) 2 2, .slice A1 x.length c1, .slice (some ⟨w.heap.size + 1, 0, none⟩) 4 4] T2))
      fun e w' => ∃ A c, e = .returned (.slice A (x.length + 6) c) ∧ w'.ownsRow w.heap.size 5 1 (.slice A (x.length + 6) c) (x.length + 6) (([120, 156] ++ (x ++ z)).map (.int .u8)) ∧ Below w.heap.size w w' := by
  subst hz
  obtain ⟨W1, hW1⟩ : ∃ W, w.alloc (.cells #[.int .u8 120, .int .u8 156] T) = W := ⟨_, rfl⟩
  obtain ⟨W2, hW2⟩ : ∃ W, W1.alloc (.cells #[.int .u8 v0, .int .u8 v1, .int .u8 v2, .int .u8 v3] T) = W := ⟨_, rfl⟩
  have s1 : W1.heap.size = w.heap.size + 1 := by rw [← hW1, World.size_alloc]
  have s2 : W2.heap.size = w.heap.size + 1 + 1 := by rw [← hW2, World.size_alloc, s1]
  have h1 : SI W1 .u8 (some ⟨w.heap.size, 0, none⟩) 2 [120, 156] := by rw [← hW1]; exact SI.lit0 w .u8 [120, 156] T (by show 2 * 1 ≤ _; omega)
  have h2 : SI W2 .u8 (some ⟨w.heap.size + 1, 0, none⟩) 4 [v0, v1, v2, v3] := by rw [← hW2, ← s1]; exact SI.lit0 W1 .u8 [v0, v1, v2, v3] T (by show 4 * 1 ≤ _; omega)
  have h12 : SI W2 .u8 (some ⟨w.heap.size, 0, none⟩) 2 [120, 156] := by rw [← hW2]; exact h1.alloc _
  have hx2 : SI W2 .u8 A1 x.length x := by rw [← hW2, ← hW1]; exact (hx.alloc _).alloc _
  have hb2 : Below w.heap.size w W2 := by rw [← hW2, ← hW1]; exact ((Below.refl _ _).alloc (Nat.le_refl _) _).alloc (by simp) _
  rw [hW1, hW2]
  have hlit := Cat.Sl.lits W2 [.slice (some ⟨w.heap.size, 0, none⟩) 2 2, .slice A1 x.length c1, .slice (some ⟨w.heap.size + 1, 0, none⟩) 4 4] T2
  rw [s2] at hlit
  have hps := Cat.concatBN (ps := [⟨some ⟨w.heap.size, 0, none⟩, 2, 2, [120, 156]⟩, ⟨A1, x.length, c1, x⟩, ⟨some ⟨w.heap.size + 1, 0, none⟩, 4, 4, [v0, v1, v2, v3]⟩]) (c := 3) (W2.alloc (.cells #[.slice (some ⟨w.heap.size, 0, none⟩) 2 2, .slice A1 x.length c1, .slice (some ⟨w.heap.size + 1, 0, none⟩) 4 4] T2)) (A := some ⟨w.heap.size + 1 + 1, 0, none⟩) (m := 3)
    hlit rfl
    (fun p hp => by
      simp only [List.mem_cons, List.not_mem_nil, or_false] at hp
      rcases hp with rfl | rfl | rfl
      · exact h12.alloc _
      · exact hx2.alloc _
      · exact h2.alloc _) (by show 2 + (x.length + (4 + 0)) ≤ _; omega) (by omega)
  refine hps.mono ?_
  rintro e w' ⟨A, c, rfl, ho, hb⟩
  have e1 : (List.map (fun x : Cat.Prt => x.n) [⟨some ⟨w.heap.size, 0, none⟩, 2, 2, [120, 156]⟩, ⟨A1, x.length, c1, x⟩, ⟨some ⟨w.heap.size + 1, 0, none⟩, 4, 4, [v0, v1, v2, v3]⟩]).sum = x.length + 6 := by simp; omega
  have e2 : List.flatMap (fun x : Cat.Prt => x.l) [⟨some ⟨w.heap.size, 0, none⟩, 2, 2, [120, 156]⟩, ⟨A1, x.length, c1, x⟩, ⟨some ⟨w.heap.size + 1, 0, none⟩, 4, 4, [v0, v1, v2, v3]⟩] = [120, 156] ++ (x ++ [v0, v1, v2, v3]) := by simp
  rw [e1, e2] at ho
  rw [e1]
  have hb3 : Below w.heap.size w (W2.alloc (.cells #[.slice (some ⟨w.heap.size, 0, none⟩) 2 2, .slice A1 x.length c1, .slice (some ⟨w.heap.size + 1, 0, none⟩) 4 4] T2)) := hb2.alloc hb2.size _
  exact ⟨A, c, rfl, own_base ho hb3.size, hb3.trans (hb.mono hb3.size)⟩
def ZlibPost (w : World) (b : List Int) (level : Nat) (e : Ending) (w' : World) : Prop :=
  ∃ A c x, e = .returned (.tuple #[.slice A (x.length + 6) c, .int .i64 0]) ∧ w'.ownsRow w.heap.size 5 1 (.slice A (x.length + 6) c) (x.length + 6) ((zlb x b).map (.int .u8)) ∧ Below w.heap.size w w' ∧ Str b level x
set_option maxRecDepth 20000 in
set_option maxHeartbeats 4000000 in
theorem zlib_any {A : Option Addr} {n c level : Nat} {b : List Int} (w : World) (HA : SI w .u8 A n b) (hc : n ≤ c) (hn : n ≤ 2000000) (hwf : ∀ x ∈ b, 0 ≤ x ∧ x < 256) (l2 : level ≤ 2) :
    Calls Tryz.prog 5 #[.slice A n c, .int .i64 level] w (ZlibPost w b level) := by
  have HAA := Lib.hid HA
  have HWF := Lib.hid hwf
  clear HA hwf
  go_enter Tryz.func5, Tryz.ntmps5
  go_wp2_with fail
  refine (raw_any w HAA.out hc hn HWF.out l2).mono ?_
  rintro e w1 ⟨A1, c1, x, rfl, ho, hb, hs⟩
  have HO := Lib.hid ho
  have HB := Lib.hid hb
  have HS := Lib.hid hs
  have HAD := Lib.hid (adler_any (c := c) w1 (HAA.out.below hb (Nat.le_refl _)) hc HWF.out)
  clear ho hb hs
  go_wp2_with fail
  refine HAD.out.mono ?_
  rintro e w' ⟨rfl, rfl⟩
  have hx : x.length ≤ 3000000 := by have := Nat.le_trans HS.out.le (storedF_len _ b (by omega) (by omega)).1; have := HAA.out.len; omega
  have HXX : Hid (SI w1 .u8 A1 x.length x) := SI.of_own HO.out (by show _ * 1 ≤ _; omega)
  go_wp2_with fail
  refine (cat_zlb (z := be4 (adler b)) w1 5 22 HXX.out hx rfl).mono ?_
  rintro e w2 ⟨A2, c2, rfl, ho2, hb2⟩
  have HO2 := Lib.hid ho2
  have HB2 := Lib.hid (HB.out.trans (hb2.mono HB.out.size))
  clear ho2 hb2
  go_wp2
  go_ret2
  exact ⟨A2, c2, x, rfl, own_base HO2.out HB.out.size, HB2.out, HS.out⟩
theorem zlib_bad {A : Option Addr} {n c : Nat} {level : Int} (w : World) (h : level < 0 ∨ 2 < level) :
    Calls Tryz.prog 5 #[.slice A n c, .int .i64 level] w fun e w' => e = .returned (.tuple #[.slice none 0 0, .int .i64 2]) ∧ w = w' := by
  have HL := Lib.hid h
  clear h
  go_enter Tryz.func5, Tryz.ntmps5
  go_wp2_with fail
  refine (raw_bad w HL.out).mono ?_
  rintro e w3 ⟨rfl, rfl⟩
  go_wp2
  go_ret2
  exact ⟨rfl, rfl⟩
end Go.Proofs.YtmgbjgjlddifaaaGreat.Adl
