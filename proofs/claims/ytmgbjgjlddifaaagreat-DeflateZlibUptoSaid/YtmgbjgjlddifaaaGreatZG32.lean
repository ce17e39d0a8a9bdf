/-
  Texts of this claim, joined by program (StrA, GetA, AdlR, ZlbR, LawZ). The readers on what Raw wrote, whatever stands behind it.
-/
import Derived.Test.YtmgbjgjlddifaaaGreatZG28
import Derived.Test.YtmgbjgjlddifaaaGreatZG30
import Derived.Test.YtmgbjgjlddifaaaGreatZG31
import Derived.Test.YtmgbjgjlddifaaaGreatChecked
import Derived.Test.YtmgbjgjlddifaaaGreatZG25
set_option linter.unusedVariables false
set_option linter.unusedSimpArgs false
namespace Go.Proofs.YtmgbjgjlddifaaaGreat.StrA
open Go.RowKit K Pfx Bits Def Wrt Inf

theorem str_len {b x : List Int} {level : Nat} (h : Str b level x) : x.length ≤ b.length + 5 * (b.length / 65535 + 1) := Nat.le_trans h.le (storedF_len _ b (by omega) (by omega)).1
theorem str_wf {b x : List Int} {level : Nat} (hs : Str b level x) (hwb : ∀ y ∈ b, 0 ≤ y ∧ y < 256) : ∀ y ∈ x, 0 ≤ y ∧ y < 256 := by
  rcases hs.kind with hk | ⟨-, hk⟩ | ⟨-, L, D, O, -, -, -, hk⟩
  · rw [hk]; exact storedF_wf _ b hwb
  · exact hk.q.wf
  · exact hk.q.wf
theorem str_todo_on {b x : List Int} {level : Nat} (hs : Str b level x) (z : List Int) : Ifl.Todo b (x ++ z) x.length 0 none [] := by
  rcases hs.kind with hk | ⟨-, hk⟩ | ⟨-, L, D, O, hL, hD, hO, hk⟩
  · exact .inl ⟨0, b, rfl, by rw [hk]; exact rest_on b z, rfl⟩
  · exact .inr (.inl ⟨rfl, rfl, rfl, On.of_pk hk z⟩)
  · exact .inr (.inr ⟨rfl, rfl, rfl, L, D, O, hL, hD, hO, On.of_pk hk z⟩)
/-- the document's reader on what the program's writer made, whatever stands behind it -/
theorem rraw_str_on {b x l z : List Int} {A : Option Addr} {c level : Nat} {most : Int} (w : World) (hl : l = x ++ z) (hsi : SI w .u8 A l.length l) (hcap : l.length ≤ c) (hmax : c ≤ 9223372036854775807) (hw : ∀ y ∈ l, 0 ≤ y ∧ y < 256) (hs : Str b level x) (hwb : ∀ y ∈ b, 0 ≤ y ∧ y < 256) (hm : (b.length : Int) ≤ most) (hmb : most ≤ 2000000) :
    Calls Tryz.prog 11 #[.slice A l.length c, .int .i64 most] w (RRawN w b x.length) := by
  subst hl
  rcases hs.kind with hk | ⟨-, hk⟩ | ⟨-, L, D, O, hL, hD, hO, hk⟩
  · exact rraw_stored_on w hsi hw hcap hmax (by rw [hk]; exact rest_on b z) hm hmb
  · exact rraw_fixed_on w hsi hw hwb (On.of_pk hk z) hm hmb
  · exact rraw_dyn_on w hsi hw hwb hL hD hO (On.of_pk hk z) hm hmb
end Go.Proofs.YtmgbjgjlddifaaaGreat.StrA
set_option linter.unusedVariables false
set_option linter.unusedSimpArgs false
namespace Go.Proofs.YtmgbjgjlddifaaaGreat.Adl
open Go.RowKit K

def getV (l : List Int) (a : Nat) : Nat → Int
  | 0 => 0
  | k+1 => getV l a k * 256 + l.getD (a + k) 0
theorem getV_bd {l : List Int} {a : Nat} (hwf : ∀ x ∈ l, 0 ≤ x ∧ x < 256) : ∀ k, a + k ≤ l.length → 0 ≤ getV l a k ∧ getV l a k < 256 ^ k
  | 0, _ => ⟨by simp [getV], by simp [getV]⟩
  | k+1, h => by
    have ih := getV_bd (a := a) hwf k (by omega)
    have hx : l[a + k]? = some (l[a + k]'(by omega)) := List.getElem?_eq_getElem (by omega)
    have hkl : a + k < l.length := by omega
    have hb := hwf _ (List.getElem_mem hkl)
    rw [getV, getD_of hx, Int.pow_succ]
    omega
theorem get_or {v x : Int} (h0 : 0 ≤ v) (h1 : v < 16777216) (h2 : 0 ≤ x) (h3 : x < 256) : bits .or .u32 (v * 256 % 4294967296) x = v * 256 + x := by
  rw [Int.emod_eq_of_lt (by omega) (by omega)]
  exact u32_or_hi 8 _ _ (by omega) (by omega) (by omega) h2 (by omega) (by omega)
theorem getV_small {l : List Int} {a k : Nat} (hwf : ∀ x ∈ l, 0 ≤ x ∧ x < 256) (hk : k ≤ 3) (h : a + k ≤ l.length) : 0 ≤ getV l a k ∧ getV l a k < 16777216 := by
  obtain ⟨h1, h2⟩ := getV_bd hwf k h
  refine ⟨h1, Int.lt_of_lt_of_le h2 ?_⟩
  have : (256 : Int) ^ k ≤ 256 ^ 3 := by
    rcases (by omega : k = 0 ∨ k = 1 ∨ k = 2 ∨ k = 3) with rfl | rfl | rfl | rfl <;> decide
  simpa using this
set_option maxRecDepth 20000 in
set_option maxHeartbeats 4000000 in
theorem get_any {A : Option Addr} {n c a : Nat} {l : List Int} (w : World) (HA : SI w .u8 A n l) (hwf : ∀ x ∈ l, 0 ≤ x ∧ x < 256) (h : a + 4 ≤ n) :
    Calls Tryz.prog 25 #[.slice A n c, .int .i64 a, .int .i64 4, .bool true] w fun e w' => e = .returned (.tuple #[.int .u32 (getV l a 4), .int .i64 0]) ∧ w = w' := by
  have HAA := Lib.hid HA
  have HWF := Lib.hid hwf
  have HLEN := Lib.hid HA.len
  have hbig := HA.bigb
  clear HA hwf
  have hth : Calls Tryz.prog 56 #[.slice A n c, .int .i64 a, .int .i64 4] w fun e w' => e = .returned (.int .i64 0) ∧ w = w' := by
    have d1 : decide ((a : Int) < 0) = false := decide_eq_false (by omega)
    have d2 : decide ((n : Int) - 4 < (a : Int)) = false := decide_eq_false (by omega)
    go_enter Tryz.func56, Tryz.ntmps56
    go_wp2
    go_ret
    exact ⟨rfl, rfl⟩
  go_enter Tryz.func25, Tryz.ntmps25
  go_wp2_with fail
  refine hth.mono ?_
  rintro e w' ⟨rfl, rfl⟩
  go_wp2_with fail
  go_loopw [11, 22] (fun sv si wr => ∃ k : Nat, k ≤ 4 ∧ sv = .int .u32 (getV l a k) ∧ si = .int .i64 k ∧ w = wr) (fun _ si _ => 4 - (intOf si).toNat)
  case atStart => exact ⟨0, by omega, rfl, rfl, rfl⟩
  case round =>
    obtain ⟨k, hk, rfl, rfl, rfl⟩ := hrel
    by_cases hlt : k < 4
    · have d1 : decide ((k : Int) < 4) = true := decide_eq_true (by omega)
      obtain ⟨x, hx⟩ : ∃ x, l[a + k]? = some x := ⟨_, List.getElem?_eq_getElem (by have := HLEN.out; omega)⟩
      have hxb := HWF.out x (List.mem_of_getElem? hx)
      obtain ⟨b1, o1, hA1, hcell⟩ := HAA.out.sl (a + k) (.int .u8 x) (by rw [List.getElem?_map, hx]; rfl)
      subst hA1
      obtain ⟨g1, g2⟩ := getV_small (a := a) (k := k) HWF.out (by omega) (by have := HLEN.out; omega)
      have hnext : getV l a (k+1) = getV l a k * 256 + x := by rw [getV, getD_of hx]
      have HN := Lib.hid hnext
      have hor := get_or g1 g2 hxb.1 hxb.2
      rw [Int.emod_eq_of_lt (by omega) (by omega)] at hor
      generalize getV l a k = v at g1 g2 hor HN
      clear hnext
      go_wp2
      refine ⟨⟨k + 1, by omega, by rw [HN.out], by go_num, trivial⟩, ?_⟩
      simp [intOf]; omega
    · obtain rfl : k = 4 := by omega
      have d1 : decide (((4 : Nat) : Int) < 4) = false := decide_eq_false (by omega)
      go_wp2
      go_ret2
      exact ⟨rfl, rfl⟩
set_option maxRecDepth 20000 in
set_option maxHeartbeats 4000000 in
theorem rget_any {A : Option Addr} {n c a : Nat} {l : List Int} (w : World) (HA : SI w .u8 A n l) (hwf : ∀ x ∈ l, 0 ≤ x ∧ x < 256) (h : a + 4 ≤ n) :
    Calls Tryz.prog 22 #[.slice A n c, .int .i64 a, .int .i64 4, .bool true] w fun e w' => e = .returned (.tuple #[.int .u32 (getV l a 4), .int .i64 0]) ∧ w = w' := by
  have HAA := Lib.hid HA
  have HWF := Lib.hid hwf
  have HLEN := Lib.hid HA.len
  have hbig := HA.bigb
  clear HA hwf
  have d1 : decide ((a : Int) < 0) = false := decide_eq_false (by omega)
  have d2 : decide ((n : Int) < (a : Int)) = false := decide_eq_false (by omega)
  have d3 : decide ((n : Int) - (a : Int) < 4) = false := decide_eq_false (by omega)
  go_enter Tryz.func22, Tryz.ntmps22
  go_wp2_with fail
  go_loopw [10, 11] (fun sv si wr => ∃ k : Nat, k ≤ 4 ∧ sv = .int .u32 (getV l a k) ∧ si = .int .i64 k ∧ w = wr) (fun _ si _ => 4 - (intOf si).toNat)
  case atStart => exact ⟨0, by omega, rfl, rfl, rfl⟩
  case round =>
    obtain ⟨k, hk, rfl, rfl, rfl⟩ := hrel
    by_cases hlt : k < 4
    · have d4 : decide ((k : Int) < 4) = true := decide_eq_true (by omega)
      obtain ⟨x, hx⟩ : ∃ x, l[a + k]? = some x := ⟨_, List.getElem?_eq_getElem (by have := HLEN.out; omega)⟩
      have hxb := HWF.out x (List.mem_of_getElem? hx)
      obtain ⟨b1, o1, hA1, hcell⟩ := HAA.out.sl (a + k) (.int .u8 x) (by rw [List.getElem?_map, hx]; rfl)
      subst hA1
      obtain ⟨g1, g2⟩ := getV_small (a := a) (k := k) HWF.out (by omega) (by have := HLEN.out; omega)
      have hnext : getV l a (k+1) = 256 * getV l a k + x := by rw [getV, getD_of hx]; omega
      have HN := Lib.hid hnext
      generalize getV l a k = v at g1 g2 HN
      clear hnext
      go_wp2
      refine ⟨⟨k + 1, by omega, by rw [HN.out], by go_num, trivial⟩, ?_⟩
      simp [intOf]; omega
    · obtain rfl : k = 4 := by omega
      have d4 : decide (((4 : Nat) : Int) < 4) = false := decide_eq_false (by omega)
      go_wp2
      go_ret2
      exact ⟨rfl, rfl⟩
end Go.Proofs.YtmgbjgjlddifaaaGreat.Adl
set_option linter.unusedVariables false
set_option linter.unusedSimpArgs false
namespace Go.Proofs.YtmgbjgjlddifaaaGreat.Adl
open Go.RowKit K

set_option maxRecDepth 20000 in
set_option maxHeartbeats 4000000 in
theorem radlerOn_any {A : Option Addr} {n c : Nat} {l : List Int} (w : World) (HA : SI w .u8 A n l) (hwf : ∀ x ∈ l, 0 ≤ x ∧ x < 256) :
    Calls Tryz.prog 47 #[.int .u32 1, .slice A n c] w fun e w' => e = .returned (.int .u32 (adler l)) ∧ w = w' := by
  have HAA := Lib.hid HA
  have HWF := Lib.hid hwf
  have HLEN := Lib.hid HA.len
  have hbig := HA.bigb
  clear HA hwf
  go_enter Tryz.func47, Tryz.ntmps47
  go_wp2
  go_loopw [5, 6, 7] (fun ss st si wr => ∃ k : Nat, k ≤ n ∧ si = .int .i64 k ∧ ss = .int .u32 (aS l k % 65521) ∧ st = .int .u32 (aT l k % 65521) ∧ w = wr) (fun _ _ si _ => n - (intOf si).toNat)
  case atStart => exact ⟨0, by omega, rfl, rfl, rfl, rfl⟩
  case round =>
    obtain ⟨k, hk, rfl, rfl, rfl, rfl⟩ := hrel
    by_cases hlt : k < n
    · have d1 : decide ((k : Int) < (n : Int)) = true := decide_eq_true (by omega)
      obtain ⟨x, hx⟩ : ∃ x, l[k]? = some x := ⟨_, List.getElem?_eq_getElem (by have := HLEN.out; omega)⟩
      have hxb := HWF.out x (List.mem_of_getElem? hx)
      obtain ⟨b1, o1, hA1, hcell⟩ := HAA.out.sl k (.int .u8 x) (by rw [List.getElem?_map, hx]; rfl)
      subst hA1
      have hsn : aS l (k+1) % 65521 = (aS l k % 65521 + x) % 65521 := by rw [aS_succ hx]; omega
      have htn : aT l (k+1) % 65521 = (aT l k % 65521 + (aS l k % 65521 + x) % 65521) % 65521 := by
        show (aT l k + aS l (k+1)) % 65521 = _
        rw [aS_succ hx]; omega
      have hs0 : 0 ≤ aS l k % 65521 ∧ aS l k % 65521 < 65521 := by omega
      have ht0 : 0 ≤ aT l k % 65521 ∧ aT l k % 65521 < 65521 := by omega
      have HSN := Lib.hid hsn
      have HTN := Lib.hid htn
      clear hsn htn hx
      generalize aS l k % 65521 = s at hs0 HSN HTN
      generalize aT l k % 65521 = t at ht0 HTN
      go_wp2
      refine ⟨⟨k + 1, by omega, by go_num, by rw [HSN.out], by rw [HTN.out], trivial⟩, ?_⟩
      simp [intOf]; omega
    · obtain rfl : k = n := by omega
      have d1 : decide ((k : Int) < (k : Int)) = false := by simp
      have hs0 : 0 ≤ aS l k % 65521 ∧ aS l k % 65521 < 65521 := by omega
      have ht0 : 0 ≤ aT l k % 65521 ∧ aT l k % 65521 < 65521 := by omega
      have had : adler l = 65536 * (aT l k % 65521) + aS l k % 65521 := by unfold adler; rw [HLEN.out]
      have HAD := Lib.hid had
      clear had
      generalize aS l k % 65521 = s at hs0 HAD
      generalize aT l k % 65521 = t at ht0 HAD
      go_wp2
      go_ret
      exact ⟨by rw [HAD.out]; rfl, rfl⟩
theorem radler_any {A : Option Addr} {n c : Nat} {l : List Int} (w : World) (HA : SI w .u8 A n l) (hwf : ∀ x ∈ l, 0 ≤ x ∧ x < 256) :
    Calls Tryz.prog 23 #[.slice A n c] w fun e w' => e = .returned (.int .u32 (adler l)) ∧ w = w' := by
  have HC := Lib.hid (radlerOn_any (c := c) w HA hwf)
  clear HA hwf
  go_enter Tryz.func23, Tryz.ntmps23
  go_wp2_with fail
  refine HC.out.mono ?_
  rintro e w' ⟨rfl, rfl⟩
  go_wp2
  go_ret
  exact ⟨rfl, rfl⟩
end Go.Proofs.YtmgbjgjlddifaaaGreat.Adl
set_option linter.unusedVariables false
set_option linter.unusedSimpArgs false
namespace Go.Proofs.YtmgbjgjlddifaaaGreat.Adl
open Go.RowKit K Bits Def Wrt Inf StrA

theorem zlb_len (x b : List Int) : (zlb x b).length = x.length + 6 := by unfold zlb be4; simp
theorem zlb_drop (x b : List Int) : (zlb x b).drop 2 = x ++ be4 (adler b) := by unfold zlb; simp
theorem zlb_get (x b : List Int) (k : Nat) : (zlb x b).getD (2 + x.length + k) 0 = (be4 (adler b)).getD k 0 := by
  rw [List.getD_eq_getElem?_getD, List.getD_eq_getElem?_getD]
  unfold zlb
  rw [← List.append_assoc, List.getElem?_append_right (by simp; omega), show 2 + x.length + k - ([120, 156] ++ x : List Int).length = k by simp; omega]
theorem zlb_sum (x b : List Int) : getV (zlb x b) (2 + x.length) 4 = adler b := by
  have hb := adler_bd b
  simp only [getV, zlb_get]
  unfold be4
  generalize adler b = v at hb
  simp
  omega
theorem zlb_wf {x b : List Int} (hx : ∀ y ∈ x, 0 ≤ y ∧ y < 256) : ∀ y ∈ zlb x b, 0 ≤ y ∧ y < 256 := fun y hy => by
  unfold zlb at hy
  rw [List.mem_append, List.mem_append] at hy
  rcases hy with hy | hy | hy
  · simp at hy; omega
  · exact hx y hy
  · unfold be4 at hy
    simp at hy; omega
theorem zlb_0 (x b : List Int) : (zlb x b)[0]? = some 120 ∧ (zlb x b)[1]? = some 156 := ⟨rfl, rfl⟩
def UnzP (w : World) (b : List Int) (e : Ending) (w' : World) : Prop :=
  ∃ A1 c1, e = .returned (.tuple #[.slice A1 b.length c1, .int .i64 0]) ∧ SI w' .u8 A1 b.length b ∧ Below w.heap.size w w'
theorem cut_two {b1 o1 c : Nat} {b x : List Int} {w : World} (HA : SI w .u8 (some ⟨b1, o1, none⟩) (x.length + 6) (zlb x b)) (hc : x.length + 6 ≤ c) :
    SI w .u8 (some ⟨b1, o1 + 2, none⟩) (x ++ be4 (adler b)).length (x ++ be4 (adler b)) := by
  have hcut := SI.cut8 (m := 2) HA hc (by omega)
  rw [zlb_drop, show x.length + 6 - 2 = (x ++ be4 (adler b)).length by simp [be4]] at hcut
  unfold shA at hcut
  rw [if_neg (by omega)] at hcut
  exact hcut
theorem cut_wf {b x : List Int} (hwz : ∀ y ∈ zlb x b, 0 ≤ y ∧ y < 256) : ∀ y ∈ x ++ be4 (adler b), 0 ≤ y ∧ y < 256 := fun y hy => hwz y (by rw [← zlb_drop] at hy; exact List.mem_of_mem_drop hy)
theorem rraw_two {b1 o1 c level : Nat} {b x : List Int} {most : Int} (w : World) (HA : SI w .u8 (some ⟨b1, o1, none⟩) (x.length + 6) (zlb x b)) (hc : x.length + 6 ≤ c) (hc2 : c ≤ 9223372036854775807) (hs : Str b level x) (hwb : ∀ y ∈ b, 0 ≤ y ∧ y < 256) (hm : (b.length : Int) ≤ most) (hmb : most ≤ 2000000) :
    Calls Tryz.prog 11 #[.slice (some ⟨b1, o1 + 2, none⟩) (x.length + 4) (c - 2), .int .i64 most] w (RRawN w b x.length) := by
  have h := rraw_str_on (c := c - 2) (z := be4 (adler b)) (most := most) w rfl (cut_two HA hc) (by simp [be4]; omega) (by omega) (cut_wf (zlb_wf (str_wf hs hwb))) hs hwb hm hmb
  rwa [show (x ++ be4 (adler b)).length = x.length + 4 by simp [be4]] at h
theorem iraw_two {b1 o1 c level : Nat} {b x : List Int} {most : Int} (w : World) (HA : SI w .u8 (some ⟨b1, o1, none⟩) (x.length + 6) (zlb x b)) (hc : x.length + 6 ≤ c) (hs : Str b level x) (hwb : ∀ y ∈ b, 0 ≤ y ∧ y < 256) (hm : (b.length : Int) ≤ most) (hmb : most ≤ 2000000) :
    Calls Tryz.prog 24 #[.slice (some ⟨b1, o1 + 2, none⟩) (x.length + 4) (c - 2), .int .i64 most] w (Ifl.IRawP w b x.length) := by
  have h := Ifl.iraw (b := b) (c := c - 2) (m := x.length) (most := most) w (cut_two HA hc) (cut_wf (zlb_wf (str_wf hs hwb))) hwb (str_todo_on hs _) hm hmb
  rwa [show (x ++ be4 (adler b)).length = x.length + 4 by simp [be4]] at h
theorem zlb_heads {b x : List Int} {w : World} {A : Option Addr} (HA : SI w .u8 A (x.length + 6) (zlb x b)) : ∃ b1 o1, A = some ⟨b1, o1, none⟩ ∧ w.cell? ⟨b1, o1, none⟩ = some (.int .u8 120) ∧ w.cell? ⟨b1, o1 + 1, none⟩ = some (.int .u8 156) := by
  obtain ⟨b1, o1, hA1, hc0⟩ := HA.sl 0 (.int .u8 120) rfl
  obtain ⟨b2, o2, hA2, hc1⟩ := HA.sl 1 (.int .u8 156) rfl
  rw [hA1] at hA2
  injection hA2 with hA2
  injection hA2 with e1 e2 e3
  subst e1 e2
  exact ⟨b1, o1, hA1, by simpa using hc0, hc1⟩
set_option maxRecDepth 20000 in
set_option maxHeartbeats 4000000 in
theorem rzlib_any {A : Option Addr} {c level : Nat} {b x : List Int} {most : Int} (w : World) (HA : SI w .u8 A (x.length + 6) (zlb x b)) (hc : x.length + 6 ≤ c) (hc2 : c ≤ 9223372036854775807) (hs : Str b level x) (hwb : ∀ y ∈ b, 0 ≤ y ∧ y < 256) (hm : (b.length : Int) ≤ most) (hmb : most ≤ 2000000) :
    Calls Tryz.prog 8 #[.slice A (x.length + 6) c, .int .i64 most] w (UnzP w b) := by
  have hxl := str_len hs
  have hx : x.length ≤ 3000000 := by omega
  have HWZ := Lib.hid (zlb_wf (b := b) (str_wf hs hwb))
  obtain ⟨b1, o1, rfl, hc0, hc1⟩ := zlb_heads HA
  have HD : Hid (SI w.drew .u8 (some ⟨b1, o1, none⟩) (x.length + 6) (zlb x b)) := HA.below (Below.refl _ _).drew (Nat.le_refl _)
  have HRAW := Lib.hid (rraw_two w.drew HD.out hc hc2 hs hwb hm hmb)
  have HWB := Lib.hid hwb
  have d0 : decide (((x.length + 6 : Nat) : Int) < 2) = false := decide_eq_false (by omega)
  have hl0 : (0 : Int) < (x.length : Int) + 6 := by omega
  have hl1 : (1 : Int) < (x.length : Int) + 6 := by omega
  clear HA hs hwb
  go_enter Tryz.func8, Tryz.ntmps8
  go_wp2_with fail
  go_region
  go_wp2_with fail
  refine HRAW.out.mono ?_
  rintro e w2 ⟨A2, c2, rfl, hs2, hb2⟩
  have HS2 := Lib.hid hs2
  have HZ2 := Lib.hid (HD.out.below hb2 (Nat.le_refl _))
  have HB2 : Hid (Below w.heap.size w w2) := (Below.refl _ w).drew.trans hb2
  have HGET := Lib.hid (rget_any (c := c) (a := 2 + x.length) w2 HZ2.out HWZ.out (by omega))
  rw [zlb_sum, show ((2 + x.length : Nat) : Int) = 2 + (x.length : Int) by push_cast; rfl] at HGET
  clear hs2 hb2 hc0 hc1 HD HRAW HZ2
  go_wp2_with fail
  refine HGET.out.mono ?_
  rintro e w' ⟨rfl, rfl⟩
  have HAD := Lib.hid (radler_any (c := c2) w2 HS2.out HWB.out)
  clear HGET
  go_wp2_with fail
  refine HAD.out.mono ?_
  rintro e w' ⟨rfl, rfl⟩
  have hne : (adler b != adler b) = false := by simp
  go_wp2_with fail
  go_ret2
  exact ⟨A2, c2, rfl, HS2.out, HB2.out⟩
set_option maxRecDepth 20000 in
set_option maxHeartbeats 4000000 in
theorem izlib_any {A : Option Addr} {c level : Nat} {b x : List Int} {most : Int} (w : World) (HA : SI w .u8 A (x.length + 6) (zlb x b)) (hc : x.length + 6 ≤ c) (hc2 : c ≤ 9223372036854775807) (hs : Str b level x) (hwb : ∀ y ∈ b, 0 ≤ y ∧ y < 256) (hm : (b.length : Int) ≤ most) (hmb : most ≤ 2000000) :
    Calls Tryz.prog 9 #[.slice A (x.length + 6) c, .int .i64 most] w (UnzP w b) := by
  have hxl := str_len hs
  have hx : x.length ≤ 3000000 := by omega
  have HWZ := Lib.hid (zlb_wf (b := b) (str_wf hs hwb))
  obtain ⟨b1, o1, rfl, hc0, hc1⟩ := zlb_heads HA
  have HD : Hid (SI w.drew .u8 (some ⟨b1, o1, none⟩) (x.length + 6) (zlb x b)) := HA.below (Below.refl _ _).drew (Nat.le_refl _)
  have HRAW := Lib.hid (iraw_two w.drew HD.out hc hs hwb hm hmb)
  have HWB := Lib.hid hwb
  have d0 : decide (((x.length + 6 : Nat) : Int) < 2) = false := decide_eq_false (by omega)
  have hl0 : (0 : Int) < (x.length : Int) + 6 := by omega
  have hl1 : (1 : Int) < (x.length : Int) + 6 := by omega
  have k1 : bits .and .u8 120 15 = 8 := by decide
  have k2 : bits .or .i64 30720 156 = 30876 := by decide
  have k3 : bits .and .u8 156 32 = 0 := by decide
  clear HA hs hwb
  go_enter Tryz.func9, Tryz.ntmps9
  go_wp2_with fail
  go_region
  go_wp2_with fail
  refine HRAW.out.mono ?_
  rintro e w2 ⟨A2, c2, rfl, hs2, hb2, hcp⟩
  have HS2 := Lib.hid hs2
  have HZ2 := Lib.hid (HD.out.below hb2 (Nat.le_refl _))
  have HB2 : Hid (Below w.heap.size w w2) := (Below.refl _ w).drew.trans hb2
  have HGET := Lib.hid (get_any (c := c) (a := 2 + x.length) w2 HZ2.out HWZ.out (by omega))
  rw [zlb_sum, show ((2 + x.length : Nat) : Int) = 2 + (x.length : Int) by push_cast; rfl] at HGET
  clear hs2 hb2 hc0 hc1 HD HRAW HZ2
  go_wp2_with fail
  refine HGET.out.mono ?_
  rintro e w' ⟨rfl, rfl⟩
  have HAD := Lib.hid (adler_any (c := c2) w2 HS2.out hcp HWB.out)
  clear HGET
  go_wp2_with fail
  refine HAD.out.mono ?_
  rintro e w' ⟨rfl, rfl⟩
  have hne : (adler b != adler b) = false := by simp
  go_wp2_with fail
  go_ret2
  exact ⟨A2, c2, rfl, HS2.out, HB2.out⟩
end Go.Proofs.YtmgbjgjlddifaaaGreat.Adl
set_option linter.unusedVariables false
set_option linter.unusedSimpArgs false
namespace Go.Proofs.YtmgbjgjlddifaaaGreat.LawZ
open Go.RowKit K Pfx Bits Def Wrt Inf Adl Law StrA

def LawPost (w : World) (e : Ending) (w' : World) : Prop := e = .returned (.bool true) ∧ Below w.heap.size w w'
set_option maxHeartbeats 1000000 in
theorem zlib_law_bad {A : Option Addr} {n c : Nat} {b : List Int} {level : Int} (w : World) (HA : SI w .u8 A n b) (hl : level < 0 ∨ 2 < level) :
    Calls Tryz.prog 3 #[.slice A n c, .int .i64 level] w (LawPost w) := by
  have HAA := Lib.hid HA
  have HL := Lib.hid hl
  clear HA hl
  go_enter Tryz.func3, Tryz.ntmps3
  go_wp2_with fail
  refine (wakes_any _).mono ?_
  rintro e w1 ⟨rfl, hb1⟩
  have HA1 := Lib.hid (HAA.out.below hb1 (Nat.le_refl _))
  go_wp2_with fail
  refine (ownb_any _ HA1.out).mono ?_
  rintro e w2 ⟨A2, c2, rfl, -, hb2, -⟩
  have HA2 := Lib.hid (HA1.out.below hb2 (Nat.le_refl _))
  have HB2 := Lib.hid (hb1.trans (hb2.mono hb1.size))
  clear hb1 hb2
  go_wp2_with fail
  refine (zlib_bad w2 HL.out).mono ?_
  rintro e w3 ⟨rfl, rfl⟩
  go_wp2_with fail
  refine (ownb_any _ HA2.out).mono ?_
  rintro e w4 ⟨A4, c4, rfl, -, hb4, -⟩
  have HB4 := Lib.hid (HB2.out.trans (hb4.mono HB2.out.size))
  clear hb4
  go_wp2_with fail
  refine (raw_bad w4 HL.out).mono ?_
  rintro e w5 ⟨rfl, rfl⟩
  rcases HL.out with hl | hl
  · have d1 : decide (level < 0) = true := decide_eq_true hl
    clear HL
    go_wp2_with fail
    go_ret
    exact ⟨rfl, HB4.out⟩
  · have d1 : decide (level < 0) = false := decide_eq_false (by omega)
    have d2 : decide ((2 : Int) < level) = true := decide_eq_true hl
    clear HL
    go_wp2_with fail
    go_ret
    exact ⟨rfl, HB4.out⟩
set_option maxRecDepth 20000 in
set_option maxHeartbeats 4000000 in
theorem zlib_law_ok {A : Option Addr} {n c level : Nat} {b : List Int} (w : World) (HA : SI w .u8 A n b) (hn : n ≤ 1048576) (hwf : ∀ x ∈ b, 0 ≤ x ∧ x < 256) (l2 : level ≤ 2) :
    Calls Tryz.prog 3 #[.slice A n c, .int .i64 level] w (LawPost w) := by
  have HAA := Lib.hid HA
  have HWF := Lib.hid hwf
  have hlen := Lib.hid HA.len
  clear HA hwf
  go_enter Tryz.func3, Tryz.ntmps3
  go_wp2_with fail
  refine (wakes_any _).mono ?_
  rintro e w1 ⟨rfl, hb1⟩
  have HA1 := Lib.hid (HAA.out.below hb1 (Nat.le_refl _))
  have HB1 := Lib.hid hb1
  clear hb1
  go_wp2_with fail
  refine (ownb_any _ HA1.out).mono ?_
  rintro e w2 ⟨A2, c2, rfl, ho2, hb2, hc2⟩
  have HA2 := Lib.hid (HA1.out.below hb2 (Nat.le_refl _))
  have HO2 : Hid (SI w2 .u8 A2 n b) := SI.of_own ho2 (by show _ * 1 ≤ _; omega)
  have HB2 := Lib.hid (HB1.out.trans (hb2.mono HB1.out.size))
  clear ho2 hb2
  go_wp2_with fail
  refine (zlib_any w2 HO2.out hc2 (by omega) HWF.out l2).mono ?_
  rintro e w3 ⟨A3, c3, x, rfl, ho3, hb3, hs3⟩
  have HA3 := Lib.hid (HA2.out.below hb3 (Nat.le_refl _))
  have HB3 := Lib.hid (HB2.out.trans (hb3.mono HB2.out.size))
  have HS3 := Lib.hid hs3
  have HO3 := Lib.hid ho3
  have hx : x.length ≤ 3000000 := by have := str_len hs3; have := hlen.out; omega
  have HXS : Hid (SI w3 .u8 A3 (x.length + 6) (zlb x b)) := SI.of_own ho3 (by show _ * 1 ≤ _; omega)
  have hcx := own_cap ho3
  have HCX := Lib.hid hcx
  have hcm : c3 ≤ 9223372036854775807 := by
    rcases ho3.2 with ⟨-, h0⟩ | ⟨g, cap, cur, hv, h1, h2, h3, h4, -⟩
    · omega
    · injection hv with _ _ hv; subst hv; exact h4
  have d1 : decide ((level : Int) < 0) = false := decide_eq_false (by omega)
  have d2 : decide ((2 : Int) < (level : Int)) = false := decide_eq_false (by omega)
  clear hb3 ho3 hs3 HAA HA1 HA2 HB1 HB2 HO2 hcx
  go_wp2_with fail
  refine (ownb_any _ HA3.out).mono ?_
  rintro e w4 ⟨A4, c4, rfl, ho4, hb4, hc4⟩
  have HA4 := Lib.hid (HA3.out.below hb4 (Nat.le_refl _))
  have HX4 := Lib.hid (HXS.out.below hb4 (Nat.le_refl _))
  have HO4 : Hid (SI w4 .u8 A4 n b) := SI.of_own ho4 (by show _ * 1 ≤ _; omega)
  have HB4 := Lib.hid (HB3.out.trans (hb4.mono HB3.out.size))
  clear ho4 hb4 HA3 HB3 HXS
  go_wp2_with fail
  refine (raw_any w4 HO4.out hc4 (by omega) HWF.out l2).mono ?_
  rintro e w5 ⟨A5, c5, r, rfl, ho5, hb5, hs5⟩
  obtain rfl : x = r := HS3.out.uniq l2 hs5
  have HA5 := Lib.hid (HA4.out.below hb5 (Nat.le_refl _))
  have HX5 := Lib.hid (HX4.out.below hb5 (Nat.le_refl _))
  have HB5 := Lib.hid (HB4.out.trans (hb5.mono HB4.out.size))
  have HCALL := Lib.hid (rzlib_any (most := (n : Int)) w5 HX5.out HCX.out hcm HS3.out HWF.out (by rw [hlen.out]; exact Int.le_refl _) (by omega))
  clear ho5 hb5 hs5 HO4 HA4 HX4 HB4
  go_wp2_with fail
  refine HCALL.out.mono ?_
  rintro e w6 ⟨A6, c6, rfl, hs6, hb6⟩
  have HY6 := Lib.hid hs6
  have HA6 := Lib.hid (HA5.out.below hb6 (Nat.le_refl _))
  have HX6 := Lib.hid (HX5.out.below hb6 (Nat.le_refl _))
  have HB6 := Lib.hid (HB5.out.trans (hb6.mono HB5.out.size))
  clear hs6 hb6 HCALL HA5 HX5 HB5
  go_wp2_with fail
  refine (ownb_any _ HX6.out).mono ?_
  rintro e w7 ⟨A7, c7, rfl, ho7, hb7, hc7⟩
  have HX7 : Hid (SI w7 .u8 A7 (x.length + 6) (zlb x b)) := SI.of_own ho7 (by show _ * 1 ≤ _; omega)
  have hcm7 : c7 ≤ 9223372036854775807 := by
    rcases ho7.2 with ⟨-, h0⟩ | ⟨g, cap, cur, hv, h1, h2, h3, h4, -⟩
    · omega
    · injection hv with _ _ hv; subst hv; exact h4
  have HY7 := Lib.hid (HY6.out.below hb7 (Nat.le_refl _))
  have HA7 := Lib.hid (HA6.out.below hb7 (Nat.le_refl _))
  have HB7 := Lib.hid (HB6.out.trans (hb7.mono HB6.out.size))
  have HCALL := Lib.hid (izlib_any (most := (n : Int)) w7 HX7.out hc7 hcm7 HS3.out HWF.out (by rw [hlen.out]; exact Int.le_refl _) (by omega))
  clear ho7 hb7 HY6 HA6 HX6 HB6
  go_wp2_with fail
  refine HCALL.out.mono ?_
  rintro e w8 ⟨A8, c8, rfl, hs8, hb8⟩
  have HZ8 := Lib.hid hs8
  have HY8 := Lib.hid (HY7.out.below hb8 (Nat.le_refl _))
  have HA8 := Lib.hid (HA7.out.below hb8 (Nat.le_refl _))
  have HB8 := Lib.hid (HB7.out.trans (hb8.mono HB7.out.size))
  have e6 : wrap64 ((x.length : Int) + 6) = ((x.length + 6 : Nat) : Int) := by rw [IntWalk.wrap64_in _ (by omega)]; push_cast; rfl
  clear hs8 hb8 HCALL HY7 HA7 HX7 HB7
  go_wp2_with fail
  refine (same_any _ HY8.out HA8.out).mono ?_
  rintro e w9 ⟨rfl, k9, rfl⟩
  have HA9 := Lib.hid (HA8.out.below (below_drewN (Below.refl _ w8) k9) (Nat.le_refl _))
  have HZ9 := Lib.hid (HZ8.out.below (below_drewN (Below.refl _ w8) k9) (Nat.le_refl _))
  simp only [decide_true]
  go_wp2_with fail
  refine (same_any _ HZ9.out HA9.out).mono ?_
  rintro e w10 ⟨rfl, k10, rfl⟩
  simp only [decide_true]
  go_wp2_with fail
  go_ret
  exact ⟨rfl, below_drewN HB8.out _⟩
theorem deflateZlib_any {A : Option Addr} {n c : Nat} {b : List Int} {level : Int} (w : World) (HA : SI w .u8 A n b) (hn : n ≤ 1048576) (hwf : ∀ x ∈ b, 0 ≤ x ∧ x < 256) :
    Calls Tryz.prog 3 #[.slice A n c, .int .i64 level] w (LawPost w) := by
  by_cases hl : level < 0 ∨ 2 < level
  · exact zlib_law_bad w HA hl
  · have e : (level.toNat : Int) = level := by omega
    have := zlib_law_ok (c := c) (level := level.toNat) w HA hn hwf (by omega)
    rwa [e] at this
end Go.Proofs.YtmgbjgjlddifaaaGreat.LawZ
