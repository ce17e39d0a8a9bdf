/-
  Texts of this claim, joined by program (AdlM, AdlA, ZlbA, LawQ). Plain: the Adler sum.
-/
import Derived.Test.YtmgbjgjlddifaaaZG1
import Derived.Test.YtmgbjgjlddifaaaZG14
import Derived.Test.YtmgbjgjlddifaaaZG23
import Derived.Test.YtmgbjgjlddifaaaZG25
set_option linter.unusedVariables false
set_option linter.unusedSimpArgs false
namespace Go.Proofs.Ytmgbjgjlddifaaa.Adl
open Go.RowKit K

def aS (l : List Int) (k : Nat) : Int := 1 + (l.take k).sum
def aT (l : List Int) : Nat → Int
  | 0 => 0
  | k+1 => aT l k + aS l (k+1)
theorem aS_succ {l : List Int} {k : Nat} {x : Int} (h : l[k]? = some x) : aS l (k+1) = aS l k + x := by
  have e : l.take (k+1) = l.take k ++ [x] := by
    rw [List.take_add_one, h]; rfl
  unfold aS; rw [e, List.sum_append]; simp; omega
def adler (l : List Int) : Int := 65536 * (aT l l.length % 65521) + aS l l.length % 65521
theorem adler_bd (l : List Int) : 0 ≤ adler l ∧ adler l < 4294967296 := by unfold adler; omega
/-- the two sums, j bytes behind the last rest -/
structure Ad (l : List Int) (k j : Nat) (s t : Int) : Prop where
  es : s % 65521 = aS l k % 65521
  et : t % 65521 = aT l k % 65521
  s0 : 0 ≤ s
  s1 : s ≤ 65520 + 255 * j
  t0 : 0 ≤ t
  t1 : t ≤ 65520 + 830520 * j
theorem Ad.start (l : List Int) : Ad l 0 0 1 0 := ⟨by simp [aS], rfl, by omega, by omega, by omega, by omega⟩
theorem Ad.step {l : List Int} {k j : Nat} {s t x : Int} (h : Ad l k j s t) (hx : l[k]? = some x) (h0 : 0 ≤ x) (h1 : x < 256) (hj : j < 3000) : Ad l (k+1) (j+1) (s + x) (t + (s + x)) := by
  obtain ⟨a, b, c, d, e, f⟩ := h
  have g := aS_succ hx
  refine ⟨by rw [g]; omega, ?_, by omega, by omega, by omega, by omega⟩
  show _ = (aT l k + aS l (k+1)) % 65521
  rw [g]; omega
theorem Ad.rest {l : List Int} {k j : Nat} {s t : Int} (h : Ad l k j s t) : Ad l k 0 (s % 65521) (t % 65521) := by
  obtain ⟨a, b, c, d, e, f⟩ := h
  exact ⟨by omega, by omega, by omega, by omega, by omega, by omega⟩
theorem Ad.done {l : List Int} {s t : Int} (h : Ad l l.length 0 s t) : 65536 * t + s = adler l ∧ 0 ≤ s ∧ s < 65521 ∧ 0 ≤ t ∧ t < 65521 := by
  obtain ⟨a, b, c, d, e, f⟩ := h
  unfold adler
  omega
end Go.Proofs.Ytmgbjgjlddifaaa.Adl
set_option linter.unusedVariables false
set_option linter.unusedSimpArgs false
namespace Go.Proofs.Ytmgbjgjlddifaaa.Adl
open Go.RowKit K Bits Def

set_option maxRecDepth 20000 in
set_option maxHeartbeats 4000000 in
theorem adlerOn_any {A : Option Addr} {n c : Nat} {l : List Int} (w : World) (HA : SI w .u8 A n l) (hc : n ≤ c) (hwf : ∀ x ∈ l, 0 ≤ x ∧ x < 256) :
    Calls Try.prog 60 #[.int .u32 1, .slice A n c] w fun e w' => e = .returned (.int .u32 (adler l)) ∧ w = w' := by
  have HAA := Lib.hid HA
  have HWF := Lib.hid hwf
  have HLEN := Lib.hid HA.len
  have hbig := HA.bigb
  clear HA hwf
  go_enter Try.func60, Try.ntmps60
  go_wp2
  go_loopw [1, 5, 6] (fun sb ss st wr => ∃ (k : Nat) (s t : Int) (A1 : Option Addr) (c1 : Nat), k ≤ n ∧ sb = .slice A1 (n - k) c1 ∧ n - k ≤ c1 ∧ c1 ≤ c ∧ ss = .int .u32 s ∧ st = .int .u32 t ∧ SI w .u8 A1 (n - k) (l.drop k) ∧ Ad l k 0 s t ∧ w = wr) (fun sb _ _ _ => lenOf sb)
  case atStart => exact ⟨0, 1, 0, A, c, by omega, rfl, hc, Nat.le_refl _, rfl, rfl, HAA.out, Ad.start l, rfl⟩
  case round =>
    obtain ⟨k, s, t, A1, c1, hk, rfl, hc1, hcc, rfl, rfl, hsi, had, rfl⟩ := hrel
    have HSI := Lib.hid hsi
    have HAD := Lib.hid had
    have hs0 := had.s0
    have hs1 := had.s1
    have ht0 := had.t0
    have ht1 := had.t1
    clear hsi had
    by_cases hlt : k < n
    · have d1 : decide (0 < ((n - k : Nat) : Int)) = true := decide_eq_true (by omega)
      obtain ⟨q, hq⟩ : ∃ q : Nat, q = min (n - k) 3000 := ⟨_, rfl⟩
      have hq1 : q ≤ n - k ∧ q ≤ 3000 ∧ 1 ≤ q := by omega
      have hmin : (if (3000 : Int) < ((n - k : Nat) : Int) then (3000 : Int) else ((n - k : Nat) : Int)) = (q : Int) := by split <;> omega
      clear hq
      go_wp2_with fail
      go_loopw [5, 6, 26] (fun ss st i wr => ∃ (j : Nat) (s t : Int), j ≤ q ∧ ss = .int .u32 s ∧ st = .int .u32 t ∧ i = .int .i64 j ∧ Ad l (k + j) j s t ∧ w = wr) (fun _ _ i _ => q - (intOf i).toNat)
      case atStart => exact ⟨0, s, t, by omega, rfl, rfl, rfl, HAD.out, rfl⟩
      case round =>
        clear HAD hs0 hs1 ht0 ht1
        obtain ⟨j, s, t, hj, rfl, rfl, rfl, had, rfl⟩ := hrel
        have HAD := Lib.hid had
        have hs0 := had.s0
        have hs1 := had.s1
        have ht0 := had.t0
        have ht1 := had.t1
        clear had
        by_cases hlt2 : j < q
        · have d2 : decide ((j : Int) < (q : Int)) = true := decide_eq_true (by omega)
          obtain ⟨x, hx⟩ : ∃ x, l[k + j]? = some x := ⟨_, List.getElem?_eq_getElem (by have := HLEN.out; omega)⟩
          have hxb := HWF.out x (List.mem_of_getElem? hx)
          have hst := HAD.out.step hx hxb.1 hxb.2 (by omega)
          have HST := Lib.hid hst
          obtain ⟨b1, o1, hA1, hcell⟩ := HSI.out.sl j (.int .u8 x) (by rw [List.getElem?_map, List.getElem?_drop, hx]; rfl)
          subst hA1
          clear hx hst
          go_wp2
          refine ⟨⟨j + 1, s + x, t + (s + x), by omega, rfl, rfl, by go_num, HST.out, trivial⟩, ?_⟩
          simp [intOf]; omega
        · obtain rfl : j = q := by omega
          have d2 : decide ((j : Int) < (j : Int)) = false := decide_eq_false (by omega)
          have hcut := SI.cut8 HSI.out hc1 hq1.1
          rw [List.drop_drop, Nat.sub_sub] at hcut
          have HCUT := Lib.hid hcut
          have HRS := Lib.hid HAD.out.rest
          clear hcut
          go_wp2
          refine ⟨⟨k + j, _, _, _, c1 - j, by omega, by rw [Nat.sub_sub]; rfl, by omega, by omega, rfl, rfl, HCUT.out, HRS.out, trivial⟩, ?_⟩
          simp [lenOf]; omega
    · have d1 : decide (0 < ((n - k : Nat) : Int)) = false := decide_eq_false (by omega)
      obtain rfl : k = n := by omega
      have hd := HAD.out
      rw [← HLEN.out] at hd
      have hdn := Lib.hid hd.done
      have hor : bits .or .u32 (t * 65536) s = adler l := by
        obtain ⟨e, g1, g2, g3, g4⟩ := hdn.out
        rw [u32_or_hi 16 _ _ (by omega) (by omega) (by omega) g1 (by omega) (by omega)]
        omega
      go_wp2_with fail
      go_ret
      exact ⟨rfl, rfl⟩
theorem adler_any {A : Option Addr} {n c : Nat} {l : List Int} (w : World) (HA : SI w .u8 A n l) (hc : n ≤ c) (hwf : ∀ x ∈ l, 0 ≤ x ∧ x < 256) :
    Calls Try.prog 30 #[.slice A n c] w fun e w' => e = .returned (.int .u32 (adler l)) ∧ w = w' := by
  have HC := Lib.hid (adlerOn_any w HA hc hwf)
  clear HA hwf
  go_enter Try.func30, Try.ntmps30
  go_wp2_with fail
  refine HC.out.mono ?_
  rintro e w' ⟨rfl, rfl⟩
  go_wp2
  go_ret
  exact ⟨rfl, rfl⟩
end Go.Proofs.Ytmgbjgjlddifaaa.Adl
set_option linter.unusedVariables false
set_option linter.unusedSimpArgs false
namespace Go.Proofs.Ytmgbjgjlddifaaa.Adl
open Go.RowKit K Bits Def Wrt

/-- a number of 32 bits as four bytes, the greatest first -/
def be4 (v : Int) : List Int := [v / 16777216 % 256, v / 65536 % 256, v / 256 % 256, v % 256]
def zlb (x b : List Int) : List Int := [120, 156] ++ (x ++ be4 (adler b))
theorem cat_zlb {A1 : Option Addr} {c1 : Nat} {x z : List Int} {v0 v1 v2 v3 : Int} (w : World) (T T2 : TypeId) (hx : SI w .u8 A1 x.length x) (bx : x.length ≤ 3000000) (hz : z = [v0, v1, v2, v3]) :
    Calls Try.prog 31 #[.slice (some ⟨w.heap.size + 1 + 1, 0, none⟩) 3 3]
      (((w.alloc (.cells #[.int .u8 120, .int .u8 156] T)).alloc (.cells #[.int .u8 v0, .int .u8 v1, .int .u8 v2, .int .u8 v3] T)).alloc (.cells #[.slice (some ⟨w.heap.size, 0, none⟩) 2 2, .slice A1 x.length c1, .slice (some ⟨w.heap.size + 1, 0, none⟩) 4 4] T2))
      fun e w' => ∃ A c, e = .returned (.slice A (x.length + 6) c) ∧ w'.ownsRow w.heap.size 5 1 (.slice A (x.length + 6) c) (x.length + 6) (([120, 156] ++ (x ++ z)).map (.int .u8)) ∧ Below w.heap.size w w' := by
  subst hz
  obtain ⟨W1, hW1⟩ : ∃ W, w.alloc (.cells #[.int .u8 120, .int .u8 156] T) = W := ⟨_, rfl⟩
  obtain ⟨W2, hW2⟩ : ∃ W, W1.alloc (.cells #[.int .u8 v0, .int .u8 v1, .int .u8 v2, .int .u8 v3] T) = W := ⟨_, rfl⟩
  have s1 : W1.heap.size = w.heap.size + 1 := by rw [← hW1, World.size_alloc]
  have s2 : W2.heap.size = w.heap.size + 1 + 1 := by rw [← hW2, World.size_alloc, s1]
  have h1 : SI W1 .u8 (some ⟨w.heap.size, 0, none⟩) 2 [120, 156] := by rw [← hW1]; exact SI.lit0 w .u8 [120, 156] T (by show 2 * 1 ≤ _; omega)
  have h2 : SI W2 .u8 (some ⟨w.heap.size + 1, 0, none⟩) 4 [v0, v1, v2, v3] := by rw [← hW2, ← s1]; exact SI.lit0 W1 .u8 [v0, v1, v2, v3] T (by show 4 * 1 ≤ _; omega)
  have h12 : SI W2 .u8 (some ⟨w.heap.size, 0, none⟩) 2 [120, 156] := by rw [← hW2]; exact h1.alloc _
  have hx2 : SI W2 .u8 A1 x.length x := by rw [← hW2, ← hW1]; exact (hx.alloc _).alloc _
  have hb2 : Below w.heap.size w W2 := by rw [← hW2, ← hW1]; exact ((Below.refl _ _).alloc (Nat.le_refl _) _).alloc (by simp) _
  rw [hW1, hW2]
  have hlit := Cat.Sl.lits W2 [.slice (some ⟨w.heap.size, 0, none⟩) 2 2, .slice A1 x.length c1, .slice (some ⟨w.heap.size + 1, 0, none⟩) 4 4] T2
  rw [s2] at hlit
  have hps := Cat.concatBN (ps := [⟨some ⟨w.heap.size, 0, none⟩, 2, 2, [120, 156]⟩, ⟨A1, x.length, c1, x⟩, ⟨some ⟨w.heap.size + 1, 0, none⟩, 4, 4, [v0, v1, v2, v3]⟩]) (c := 3) (W2.alloc (.cells #[.slice (some ⟨w.heap.size, 0, none⟩) 2 2, .slice A1 x.length c1, .slice (some ⟨w.heap.size + 1, 0, none⟩) 4 4] T2)) (A := some ⟨w.heap.size + 1 + 1, 0, none⟩) (m := 3)
    hlit rfl
    (fun p hp => by
      simp only [List.mem_cons, List.not_mem_nil, or_false] at hp
      rcases hp with rfl | rfl | rfl
      · exact h12.alloc _
      · exact hx2.alloc _
      · exact h2.alloc _) (by show 2 + (x.length + (4 + 0)) ≤ _; omega) (by omega)
  refine hps.mono ?_
  rintro e w' ⟨A, c, rfl, ho, hb⟩
  have e1 : (List.map (fun x : Cat.Prt => x.n) [⟨some ⟨w.heap.size, 0, none⟩, 2, 2, [120, 156]⟩, ⟨A1, x.length, c1, x⟩, ⟨some ⟨w.heap.size + 1, 0, none⟩, 4, 4, [v0, v1, v2, v3]⟩]).sum = x.length + 6 := by simp; omega
  have e2 : List.flatMap (fun x : Cat.Prt => x.l) [⟨some ⟨w.heap.size, 0, none⟩, 2, 2, [120, 156]⟩, ⟨A1, x.length, c1, x⟩, ⟨some ⟨w.heap.size + 1, 0, none⟩, 4, 4, [v0, v1, v2, v3]⟩] = [120, 156] ++ (x ++ [v0, v1, v2, v3]) := by simp
  rw [e1, e2] at ho
  rw [e1]
  have hb3 : Below w.heap.size w (W2.alloc (.cells #[.slice (some ⟨w.heap.size, 0, none⟩) 2 2, .slice A1 x.length c1, .slice (some ⟨w.heap.size + 1, 0, none⟩) 4 4] T2)) := hb2.alloc hb2.size _
  exact ⟨A, c, rfl, own_base ho hb3.size, hb3.trans (hb.mono hb3.size)⟩
def ZlibPost (w : World) (b : List Int) (level : Nat) (e : Ending) (w' : World) : Prop :=
  ∃ A c x, e = .returned (.tuple #[.slice A (x.length + 6) c, .int .i64 0]) ∧ w'.ownsRow w.heap.size 5 1 (.slice A (x.length + 6) c) (x.length + 6) ((zlb x b).map (.int .u8)) ∧ Below w.heap.size w w' ∧ Str b level x
set_option maxRecDepth 20000 in
set_option maxHeartbeats 4000000 in
theorem zlib_any {A : Option Addr} {n c level : Nat} {b : List Int} (w : World) (HA : SI w .u8 A n b) (hc : n ≤ c) (hn : n ≤ 2000000) (hwf : ∀ x ∈ b, 0 ≤ x ∧ x < 256) (l2 : level ≤ 2) :
    Calls Try.prog 14 #[.slice A n c, .int .i64 level] w (ZlibPost w b level) := by
  have HAA := Lib.hid HA
  have HWF := Lib.hid hwf
  clear HA hwf
  go_enter Try.func14, Try.ntmps14
  go_wp2_with fail
  refine (raw_any w HAA.out hc hn HWF.out l2).mono ?_
  rintro e w1 ⟨A1, c1, x, rfl, ho, hb, hs⟩
  have HO := Lib.hid ho
  have HB := Lib.hid hb
  have HS := Lib.hid hs
  have HAD := Lib.hid (adler_any (c := c) w1 (HAA.out.below hb (Nat.le_refl _)) hc HWF.out)
  clear ho hb hs
  go_wp2_with fail
  refine HAD.out.mono ?_
  rintro e w' ⟨rfl, rfl⟩
  have hx : x.length ≤ 3000000 := by have := Nat.le_trans HS.out.le (storedF_len _ b (by omega) (by omega)).1; have := HAA.out.len; omega
  have HXX : Hid (SI w1 .u8 A1 x.length x) := SI.of_own HO.out (by show _ * 1 ≤ _; omega)
  go_wp2_with fail
  refine (cat_zlb (z := be4 (adler b)) w1 5 22 HXX.out hx rfl).mono ?_
  rintro e w2 ⟨A2, c2, rfl, ho2, hb2⟩
  have HO2 := Lib.hid ho2
  have HB2 := Lib.hid (HB.out.trans (hb2.mono HB.out.size))
  clear ho2 hb2
  go_wp2
  go_ret2
  exact ⟨A2, c2, x, rfl, own_base HO2.out HB.out.size, HB2.out, HS.out⟩
theorem zlib_bad {A : Option Addr} {n c : Nat} {level : Int} (w : World) (h : level < 0 ∨ 2 < level) :
    Calls Try.prog 14 #[.slice A n c, .int .i64 level] w fun e w' => e = .returned (.tuple #[.slice none 0 0, .int .i64 2]) ∧ w = w' := by
  have HL := Lib.hid h
  clear h
  go_enter Try.func14, Try.ntmps14
  go_wp2_with fail
  refine (raw_bad w HL.out).mono ?_
  rintro e w3 ⟨rfl, rfl⟩
  go_wp2
  go_ret2
  exact ⟨rfl, rfl⟩
end Go.Proofs.Ytmgbjgjlddifaaa.Adl
set_option linter.unusedVariables false
set_option linter.unusedSimpArgs false
namespace Go.Proofs.Ytmgbjgjlddifaaa.LawQ
open Go.RowKit K Pfx Bits Def Wrt Inf Adl Law

def LawPost (w : World) (e : Ending) (w' : World) : Prop := e = .returned (.bool true) ∧ Below w.heap.size w w'
theorem own_set8 {w : World} {base e g n c i : Nat} {xs : List Value} {v : Value} (h : w.ownsRow base e 1 (.slice (some ⟨g, 0, none⟩) n c) n xs) : (w.setCell ⟨g, i, none⟩ v).ownsRow base e 1 (.slice (some ⟨g, 0, none⟩) n c) n (xs.set i v) := by
  refine ⟨by have := h.1; simpa using this, ?_⟩
  rcases h.2 with ⟨hv, -⟩ | ⟨g', cap, cur, hv, h1, h2, h3, h4, h5, h6⟩
  · cases hv
  · injection hv with e1 e2 e3
    injection e1 with e1
    injection e1 with e1
    subst e1 e3
    refine .inr ⟨g, c, cur.setIfInBounds i v, rfl, h1, ?_, h3, h4, by simpa using h5, ?_⟩
    · rw [setCell_eq_setRow w g i cur e (0, 0) v h2]; exact setRow_heap _ _ _ _ _ _ h2
    · rw [Array.toList_setIfInBounds, List.take_set, h6]
theorem own_some {w : World} {base e n c : Nat} {A : Option Addr} {xs : List Value} (h : w.ownsRow base e 1 (.slice A n c) n xs) (h0 : 0 < n) : ∃ g, A = some ⟨g, 0, none⟩ := by
  rcases h.2 with ⟨hv, hx⟩ | ⟨g, cap, cur, hv, -⟩
  · have := h.1; subst hx; simp at this; omega
  · injection hv with e1; exact ⟨g, e1⟩
/-- which stream Raw makes, at whatever level -/
def Pl (b : List Int) (level : Int) (x : List Int) : Prop := ((0 ≤ level ∧ level ≤ 2) → Str b level.toNat x) ∧ (¬ (0 ≤ level ∧ level ≤ 2) → x = [])
theorem Pl.uniq {b x y : List Int} {level : Int} (h : Pl b level x) (k : Pl b level y) : x = y := by
  by_cases e : 0 ≤ level ∧ level ≤ 2
  · exact (h.1 e).uniq (by omega) (k.1 e)
  · rw [h.2 e, k.2 e]
theorem Pl.len {b x : List Int} {level : Int} (h : Pl b level x) (hb : b.length ≤ 2000000) : x.length ≤ 3000000 := by
  by_cases e : 0 ≤ level ∧ level ≤ 2
  · have := Nat.le_trans (h.1 e).le (storedF_len _ b (by omega) (by omega)).1
    omega
  · rw [h.2 e]; simp
def RawAll (w : World) (b : List Int) (level : Int) (e : Ending) (w' : World) : Prop :=
  ∃ A c x er, e = .returned (.tuple #[.slice A x.length c, .int .i64 er]) ∧ w'.ownsRow w.heap.size 5 1 (.slice A x.length c) x.length (x.map (.int .u8)) ∧ Below w.heap.size w w' ∧ Pl b level x
theorem raw_all {A : Option Addr} {n c : Nat} {b : List Int} {level : Int} (w : World) (HA : SI w .u8 A n b) (hc : n ≤ c) (hn : n ≤ 2000000) (hwf : ∀ x ∈ b, 0 ≤ x ∧ x < 256) :
    Calls Try.prog 9 #[.slice A n c, .int .i64 level] w (RawAll w b level) := by
  by_cases e : 0 ≤ level ∧ level ≤ 2
  · have hl : (level.toNat : Int) = level := by omega
    have := raw_any (level := level.toNat) w HA hc hn hwf (by omega)
    rw [hl] at this
    refine this.mono ?_
    rintro e' w' ⟨A', c', x, rfl, h1, h2, h3⟩
    exact ⟨A', c', x, 0, rfl, h1, h2, fun _ => h3, fun h => absurd e h⟩
  · refine (raw_bad w (by omega)).mono ?_
    rintro e' w' ⟨rfl, rfl⟩
    exact ⟨none, 0, [], 2, rfl, World.ownsRow_nil _ _ _ _, Below.refl _ _, fun h => absurd h e, fun _ => rfl⟩
def ZlibAll (w : World) (e : Ending) (w' : World) : Prop :=
  ∃ A c er, ∃ l : List Int, e = .returned (.tuple #[.slice A l.length c, .int .i64 er]) ∧ w'.ownsRow w.heap.size 5 1 (.slice A l.length c) l.length (l.map (.int .u8)) ∧ Below w.heap.size w w' ∧ l.length ≤ 4000000
theorem zlib_all {A : Option Addr} {n c : Nat} {b : List Int} {level : Int} (w : World) (HA : SI w .u8 A n b) (hc : n ≤ c) (hn : n ≤ 2000000) (hwf : ∀ x ∈ b, 0 ≤ x ∧ x < 256) :
    Calls Try.prog 14 #[.slice A n c, .int .i64 level] w (ZlibAll w) := by
  by_cases e : 0 ≤ level ∧ level ≤ 2
  · have hl : (level.toNat : Int) = level := by omega
    have := zlib_any (level := level.toNat) w HA hc hn hwf (by omega)
    rw [hl] at this
    refine this.mono ?_
    rintro e' w' ⟨A', c', x, rfl, h1, h2, h3⟩
    have hx := Nat.le_trans h3.le (storedF_len _ b (by omega) (by omega)).1
    have hz : (zlb x b).length = x.length + 6 := by unfold zlb be4; simp
    have hla := HA.len
    exact ⟨A', c', 0, zlb x b, by rw [hz], by rw [hz]; exact h1, h2, by rw [hz]; omega⟩
  · refine (zlib_bad w (by omega)).mono ?_
    rintro e' w' ⟨rfl, rfl⟩
    exact ⟨none, 0, 2, [], rfl, World.ownsRow_nil _ _ _ _, Below.refl _ _, by simp⟩
/-- while an outcome's bytes are turned -/
structure Xb (w8 wr : World) (base : Nat) (A1 : Option Addr) (c1 : Nat) (l : List Int) : Prop where
  own : wr.ownsRow base 5 1 (.slice A1 l.length c1) l.length (l.map (.int .u8))
  gr : w8.grownBy wr (Value.slice A1 l.length c1).ownBlock
theorem Xb.set {w8 wr : World} {base b1 c1 : Nat} {l : List Int} (h : Xb w8 wr base (some ⟨b1, 0, none⟩) c1 l) (i : Nat) (v : Int) : Xb w8 (wr.setCell ⟨b1, i, none⟩ (.int .u8 v)) base (some ⟨b1, 0, none⟩) c1 (l.set i v) := by
  refine ⟨?_, ?_⟩
  · rw [List.map_set, List.length_set]; exact own_set8 h.own
  · rw [List.length_set]; exact grown_set h.gr i _
theorem si_gr {w w' : World} {k : IntKind} {A : Option Addr} {n : Nat} {l : List Int} {row : Option Nat} (h : SI w k A n l) (hg : w.grownBy w' row) (hp : ∀ b off s, A = some ⟨b, off, s⟩ → some b ≠ row) : SI w' k A n l :=
  ⟨h.len, h.sz, fun j u hu => by
    obtain ⟨b, off, rfl, hc⟩ := h.sl j u hu
    exact ⟨b, off, rfl, hg.cell hc (hp b off none rfl)⟩⟩
theorem blk_apart {w V : World} {base base2 e e2 sz sz2 n n2 : Nat} {v v2 : Value} {xs xs2 : List Value} (h : w.ownsRow base e sz v n xs) (k : V.ownsRow base2 e2 sz2 v2 n2 xs2) (hk : V.heap.size ≤ base) : v.ownBlock = none ∨ v.ownBlock ≠ v2.ownBlock := by
  cases hv : v.ownBlock with
  | none => exact .inl rfl
  | some b =>
    refine .inr fun e => ?_
    have h1 := (h.lt b hv).1
    have h2 := (k.lt b e.symm).2
    omega
set_option maxRecDepth 20000 in
set_option maxHeartbeats 8000000 in
theorem deflateOwn_any {A : Option Addr} {n c : Nat} {b : List Int} {level : Int} (w : World) (HA : SI w .u8 A n b) (hn : n ≤ 1048576) (hwf : ∀ x ∈ b, 0 ≤ x ∧ x < 256) :
    Calls Try.prog 6 #[.slice A n c, .int .i64 level] w (LawPost w) := by
  have HAA := Lib.hid HA
  have HWF := Lib.hid hwf
  have hlen := Lib.hid HA.len
  have hbig := HA.bigb
  clear HA hwf
  go_enter Try.func6, Try.ntmps6
  go_wp2_with fail
  refine (wakes_any _).mono ?_
  rintro e w1 ⟨rfl, hb1⟩
  have HA1 := Lib.hid (HAA.out.below hb1 (Nat.le_refl _))
  have HB1 := Lib.hid hb1
  clear hb1
  go_wp2_with fail
  refine (ownb_any _ HA1.out).mono ?_
  rintro e w2 ⟨A2, c2, rfl, hown2, hb2, hc2⟩
  have hsz1 := HB1.out.size
  have hsz2 := hb2.size
  have Hb2 := Lib.hid (HB1.out.trans (hb2.mono hsz1))
  go_wp2_with (at_builtin; refine wpList_append_sl _ rfl (.tmp 19) (.tmp 20) _ rfl w1.heap.size 5 1 1 _ Try.underlying22 infoU8 rfl (by omega) (.slice A2 n c2) n _ rfl (hown2.alloc _) _ 1 1 [.int .u8 77] rfl rfl (Sl.one w2 _ _) ?c1 ?c2 ?c3 ?c4 ?_)
  case c1 => simp [Value.oneCell']
  case c2 => unfold maxLen; omega
  case c3 => omega
  case c4 => simp; omega
  intro v3 w3 hown3 hg3 _
  have hb3 : Below w1.heap.size w2 w3 := ((Below.refl w1.heap.size w2).alloc hsz2 _).grown hg3 (by simp; omega) (fun k hk => (hown2.lt k hk).1)
  have hown3' : w3.ownsRow w1.heap.size 5 1 v3 (n + 1) ((b ++ [77]).map (.int .u8)) := by simpa using hown3
  obtain ⟨g, c3, rfl, hglo, hcap, hmax⟩ : ∃ g c3, v3 = .slice (some ⟨g, 0, none⟩) (n + 1) c3 ∧ w1.heap.size ≤ g ∧ n + 1 ≤ c3 ∧ c3 ≤ maxLen := by
    rcases hown3'.2 with ⟨-, h0⟩ | ⟨g, cap, cur, hv, h1, h2, h3, h4, -⟩
    · simp at h0
    · exact ⟨g, cap, hv, h1, h3, h4⟩
  have hghi : g < w3.heap.size := (hown3'.lt g rfl).2
  have c77 : w3.cell? ⟨g, n, none⟩ = some (.int .u8 77) := by
    rw [hown3'.cellAt n (by omega)]; have := hlen.out; simp [← this]
  have hs3 : SI w3 .u8 (some ⟨g, 0, none⟩) n b := ⟨hlen.out, by show n * 1 ≤ _; omega, fun j u hu => by
    have hj : j < b.length := by
      rcases Nat.lt_or_ge j b.length with h | h
      · exact h
      · rw [List.getElem?_map, List.getElem?_eq_none h] at hu; cases hu
    refine ⟨g, 0, rfl, ?_⟩
    rw [Nat.zero_add, hown3'.cellAt j (by have := hlen.out; omega), List.map_append, List.getElem?_append_left (by simpa using hj)]
    exact hu⟩
  have HB3 := Lib.hid (Hb2.out.trans (hb3.mono hsz1))
  have HA3 := Lib.hid (HAA.out.below HB3.out (Nat.le_refl _))
  have HS3 := Lib.hid hs3
  have HC77 := Lib.hid c77
  have hsw3 := HB3.out.size
  clear hb2 hown2 hown3 hg3 hown3' Hb2 hb3 hs3 c77 HA1 HB1
  have hm3 := hmax
  unfold maxLen at hm3
  go_wp2_with fail
  refine (raw_all w3 HS3.out (by omega) (by omega) HWF.out).mono ?_
  rintro e w4 ⟨A4, c4, x, er4, rfl, ho4, hb4, hp4⟩
  have hx := hp4.len (by have := hlen.out; omega)
  have HO4 := Lib.hid ho4
  have HB34 := Lib.hid hb4
  have HP4 := Lib.hid hp4
  have HS4 := Lib.hid (HS3.out.below hb4 (Nat.le_refl _))
  clear ho4 hb4 hp4
  go_wp2_with fail
  refine (raw_all w4 HS4.out (by omega) (by omega) HWF.out).mono ?_
  rintro e w5 ⟨A5, c5, y, er5, rfl, ho5, hb5, hp5⟩
  obtain rfl : x = y := HP4.out.uniq hp5
  have HO5 := Lib.hid ho5
  have HB45 := Lib.hid hb5
  have HS5 := Lib.hid (HS4.out.below hb5 (Nat.le_refl _))
  have HX5 := Lib.hid (own_below HO4.out hb5)
  clear ho5 hb5 hp5
  go_wp2_with fail
  refine (zlib_all w5 HS5.out (by omega) (by omega) HWF.out).mono ?_
  rintro e w6 ⟨A6, c6, er6, z, rfl, ho6, hb6, hz6⟩
  have HO6 := Lib.hid ho6
  have HX6 := Lib.hid (own_below HX5.out hb6)
  have HY6 := Lib.hid (own_below HO5.out hb6)
  have hs34 := HB34.out.size
  have hs45 := HB45.out.size
  have hs56 := hb6.size
  have HB36 : Hid (Below w3.heap.size w3 w6) := HB34.out.trans ((HB45.out.mono hs34).trans (hb6.mono (Nat.le_trans hs34 hs45)))
  have HB6 : Hid (Below w.heap.size w w6) := HB3.out.trans (HB36.out.mono hsw3)
  have HS6 := Lib.hid (HS3.out.below HB36.out (Nat.le_refl _))
  have HA6 := Lib.hid (HAA.out.below HB6.out (Nat.le_refl _))
  have HC6 : Hid (w6.cell? ⟨g, n, none⟩ = some (.int .u8 77)) := (HB36.out.cell (p := ⟨g, n, none⟩) hghi).trans HC77.out
  have HXS : Hid (SI w6 .u8 A4 x.length x) := SI.of_own HX6.out (by show _ * 1 ≤ _; omega)
  have HYS : Hid (SI w6 .u8 A5 x.length x) := SI.of_own HY6.out (by show _ * 1 ≤ _; omega)
  clear ho6 hb6 HX5 HS5 HS4 HA3 HC77
  go_wp2_with fail
  refine (same_any _ HXS.out HYS.out).mono ?_
  rintro e w7 ⟨rfl, q7, rfl⟩
  rw [decide_eq_true (rfl : x = x)]
  have HB67 : Hid (Below w6.heap.size w6 (w6.drewN q7)) := below_drewN (Below.refl _ _) _
  generalize hw7 : w6.drewN q7 = w7 at HB67 ⊢
  clear hw7
  have HX7 := Lib.hid (own_below HX6.out HB67.out)
  have HY7 := Lib.hid (own_below HY6.out HB67.out)
  have HZ7 := Lib.hid (own_below HO6.out HB67.out)
  have HS7 := Lib.hid (HS6.out.below HB67.out (Nat.le_refl _))
  have HA7 := Lib.hid (HA6.out.below HB67.out (Nat.le_refl _))
  have HB7 : Hid (Below w.heap.size w w7) := HB6.out.trans (HB67.out.mono HB6.out.size)
  have hg6 : g < w6.heap.size := Nat.lt_of_lt_of_le hghi HB36.out.size
  have c7 : w7.cell? ⟨g, n, none⟩ = some (.int .u8 77) := (HB67.out.cell (p := ⟨g, n, none⟩) hg6).trans HC6.out
  clear HX6 HY6 HS6 HA6 HC6 HXS HYS
  go_wp2_with fail
  refine (same_any _ HS7.out HA7.out).mono ?_
  rintro e w8 ⟨rfl, q8, rfl⟩
  rw [decide_eq_true (rfl : b = b)]
  have HB78 : Hid (Below w7.heap.size w7 (w7.drewN q8)) := below_drewN (Below.refl _ _) _
  generalize hw8 : w7.drewN q8 = w8 at HB78 ⊢
  clear hw8
  have HX8 := Lib.hid (own_below HX7.out HB78.out)
  have HY8 := Lib.hid (own_below HY7.out HB78.out)
  have HZ8 := Lib.hid (own_below HZ7.out HB78.out)
  have HB8 : Hid (Below w.heap.size w w8) := HB7.out.trans (HB78.out.mono HB7.out.size)
  have h38 : w3.heap.size ≤ w8.heap.size := Nat.le_trans HB36.out.size (Nat.le_trans HB67.out.size HB78.out.size)
  have HX0 : Hid (Xb w8 w8 w3.heap.size A4 c4 x) := ⟨HX8.out, rfl, rfl, rfl, Nat.le_refl _, fun _ _ _ => rfl⟩
  have HAP5 : Hid ((Value.slice A5 x.length c5).ownBlock = none ∨ (Value.slice A5 x.length c5).ownBlock ≠ (Value.slice A4 x.length c4).ownBlock) := blk_apart HO5.out HO4.out (Nat.le_refl _)
  have HAP6 : Hid ((Value.slice A6 z.length c6).ownBlock = none ∨ (Value.slice A6 z.length c6).ownBlock ≠ (Value.slice A4 x.length c4).ownBlock) := blk_apart HO6.out HO4.out hs45
  have HAP7 : Hid ((Value.slice A5 x.length c5).ownBlock = none ∨ (Value.slice A5 x.length c5).ownBlock ≠ (Value.slice A6 z.length c6).ownBlock) := by
    have := blk_apart HO6.out HO5.out (Nat.le_refl _)
    show _ ∨ _
    rcases this with h | h
    · rw [h]
      cases (Value.slice A5 x.length c5).ownBlock <;> simp
    · exact .inr (Ne.symm h)
  clear HX7 HY7 HZ7 HS7 HA7 HB7 c7 hg6 HB67 HB78 HO6 HO5 HB45 HB34
  go_wp2_with fail
  go_loopw [72] (fun s72 wr => ∃ (k : Nat) (l : List Int), k ≤ x.length ∧ s72 = .int .i64 k ∧ l.length = x.length ∧ Xb w8 wr w3.heap.size A4 c4 l) (fun s72 _ => x.length - (intOf s72).toNat)
  case atStart => exact ⟨0, x, by omega, rfl, rfl, HX0.out⟩
  case round =>
    clear HX0
    obtain ⟨k, l, hk, rfl, hl, hxb⟩ := hrel
    have HXB := Lib.hid hxb
    have HL := Lib.hid hl
    clear hxb hl
    by_cases hlt : k < x.length
    · have d0 : decide ((k : Int) < (x.length : Int)) = true := decide_eq_true (by omega)
      obtain ⟨b1, rfl⟩ : ∃ g, A4 = some ⟨g, 0, none⟩ := own_some HXB.out.own (by have := HL.out; omega)
      have hcl : wr.cell? ⟨b1, k, none⟩ = some (.int .u8 (l.getD k 0)) := by
        rw [HXB.out.own.cellAt (g := b1) k (by have := HL.out; omega), List.getElem?_map, List.getElem?_eq_getElem (by have := HL.out; omega), List.getD_eq_getElem?_getD, List.getElem?_eq_getElem (by have := HL.out; omega)]
        rfl
      have hfz : wr.frozen? ⟨b1, k, none⟩ = false := HXB.out.own.frozenAt k
      generalize l.getD k 0 = v at hcl
      go_wp2
      go_roundw
      case rel => exact ⟨k + 1, l.set k _, by omega, by go_num, by rw [List.length_set]; exact HL.out, HXB.out.set k _⟩
      case measure => simp [intOf]; omega
    · obtain rfl : k = x.length := by omega
      have d0 : decide ((x.length : Int) < (x.length : Int)) = false := by simp
      have hgr := HXB.out.gr
      rw [HL.out] at hgr
      have HGR := Lib.hid hgr
      obtain ⟨w9, hw9⟩ : ∃ W, wr = W := ⟨_, rfl⟩
      rw [hw9] at hgr HGR ⊢
      have HB9 : Hid (Below w.heap.size w w9) := HB8.out.grown hgr HB8.out.size (fun b e => Nat.le_trans hsw3 (HO4.out.lt b e).1)
      have HY9 : Hid (w9.ownsRow w4.heap.size 5 1 (.slice A5 x.length c5) x.length (x.map (.int .u8))) := HY8.out.kept hgr HAP5.out
      have HZ9 : Hid (w9.ownsRow w5.heap.size 5 1 (.slice A6 z.length c6) z.length (z.map (.int .u8))) := HZ8.out.kept hgr HAP6.out
      have HZ0 : Hid (Xb w9 w9 w5.heap.size A6 c6 z) := ⟨HZ9.out, rfl, rfl, rfl, Nat.le_refl _, fun _ _ _ => rfl⟩
      clear hgr HGR HXB hw9 HY8 HZ8 HB8 HAP5 HAP6
      go_wp2_with fail
      go_loopw [86] (fun s86 wr => ∃ (k : Nat) (l : List Int), k ≤ z.length ∧ s86 = .int .i64 k ∧ l.length = z.length ∧ Xb w9 wr w5.heap.size A6 c6 l) (fun s86 _ => z.length - (intOf s86).toNat)
      case atStart => exact ⟨0, z, by omega, rfl, rfl, HZ0.out⟩
      case round =>
        clear HZ0
        obtain ⟨k, l, hk, rfl, hl, hxb⟩ := hrel
        have HXB := Lib.hid hxb
        have HL := Lib.hid hl
        clear hxb hl
        by_cases hlt2 : k < z.length
        · have d1 : decide ((k : Int) < (z.length : Int)) = true := decide_eq_true (by omega)
          obtain ⟨b1, rfl⟩ : ∃ g, A6 = some ⟨g, 0, none⟩ := own_some HXB.out.own (by have := HL.out; omega)
          have hcl : wr.cell? ⟨b1, k, none⟩ = some (.int .u8 (l.getD k 0)) := by
            rw [HXB.out.own.cellAt (g := b1) k (by have := HL.out; omega), List.getElem?_map, List.getElem?_eq_getElem (by have := HL.out; omega), List.getD_eq_getElem?_getD, List.getElem?_eq_getElem (by have := HL.out; omega)]
            rfl
          have hfz : wr.frozen? ⟨b1, k, none⟩ = false := HXB.out.own.frozenAt k
          generalize l.getD k 0 = v at hcl
          go_wp2
          go_roundw
          case rel => exact ⟨k + 1, l.set k _, by omega, by go_num, by rw [List.length_set]; exact HL.out, HXB.out.set k _⟩
          case measure => simp [intOf]; omega
        · obtain rfl : k = z.length := by omega
          have d1 : decide ((z.length : Int) < (z.length : Int)) = false := by simp
          have hgr := HXB.out.gr
          rw [HL.out] at hgr
          obtain ⟨w10, hw10⟩ : ∃ W, wr = W := ⟨_, rfl⟩
          rw [hw10] at hgr ⊢
          have h35 : w.heap.size ≤ w5.heap.size := Nat.le_trans hsw3 (Nat.le_trans hs34 hs45)
          have HB10 : Hid (Below w.heap.size w w10) := HB9.out.grown hgr HB9.out.size (fun b e => Nat.le_trans h35 (HZ9.out.lt b e).1)
          have HY10 : Hid (w10.ownsRow w4.heap.size 5 1 (.slice A5 x.length c5) x.length (x.map (.int .u8))) := HY9.out.kept hgr HAP7.out
          have HYS : Hid (SI w10 .u8 A5 x.length x) := SI.of_own HY10.out (by show _ * 1 ≤ _; omega)
          have HA10 := Lib.hid (HAA.out.below HB10.out (Nat.le_refl _))
          clear hgr HXB hw10 HY9 HZ9 HB9 HAP7
          go_wp2_with fail
          refine (ownb_any _ HA10.out).mono ?_
          rintro e w11 ⟨A11, c11, rfl, ho11, hb11, hc11⟩
          have HS11 : Hid (SI w11 .u8 A11 n b) := SI.of_own ho11 (by show _ * 1 ≤ _; omega)
          have HY11 := Lib.hid (HYS.out.below hb11 (Nat.le_refl _))
          have HB11 := Lib.hid (HB10.out.trans (hb11.mono HB10.out.size))
          clear ho11 hb11 HYS HA10 HB10 HY10
          go_wp2_with fail
          refine (raw_all w11 HS11.out hc11 (by omega) HWF.out).mono ?_
          rintro e w12 ⟨A12, c12, y, er12, rfl, ho12, hb12, hp12⟩
          obtain rfl : x = y := HP4.out.uniq hp12
          have HY12 := Lib.hid (HY11.out.below hb12 (Nat.le_refl _))
          have HS12 : Hid (SI w12 .u8 A12 x.length x) := SI.of_own ho12 (by show _ * 1 ≤ _; omega)
          have HB12 := Lib.hid (HB11.out.trans (hb12.mono HB11.out.size))
          clear ho12 hb12 hp12 HY11 HS11 HB11
          go_wp2_with fail
          refine (same_any _ HY12.out HS12.out).mono ?_
          rintro e w13 ⟨rfl, q13, rfl⟩
          rw [decide_eq_true (rfl : x = x)]
          go_wp2
          go_ret
          exact ⟨rfl, below_drewN HB12.out _⟩
end Go.Proofs.Ytmgbjgjlddifaaa.LawQ
