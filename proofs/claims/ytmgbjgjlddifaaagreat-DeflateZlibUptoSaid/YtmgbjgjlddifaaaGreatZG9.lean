/-
  Texts of this claim, joined by program (WrtB, SrtA, SrtB, SrtC, SrtDM). Walks: the bits' writer: Put, Bytes, Len.
-/
import Derived.Test.YtmgbjgjlddifaaaGreatZG8
import Derived.Test.YtmgbjgjlddifaaaGreatChecked
import Derived.Test.YtmgbjgjlddifaaaGreatZG1
import Derived.Shelf.SlSortCmp.QuietGrown
set_option linter.unusedVariables false
set_option linter.unusedSimpArgs false
namespace Go.Proofs.YtmgbjgjlddifaaaGreat.Wrt
open Go.RowKit K Bits

def PutPost (w : World) (q base : Nat) (A : Option Addr) (bs : List Int) (up : Bool) (e : Ending) (w' : World) : Prop :=
  e = .returned (.int .i64 0) ∧ ∃ A' c' B', Wt w' q base A' c' B' bs up ∧ Chg w w' (WS q A) ∧ (own A' = own A ∨ ∀ b, own A' = some b → w.heap.size ≤ b)
theorem putV_len (up : Bool) (v : Int) (n : Nat) : (putV up v n).length = n := by simp [putV]
theorem putV_get (up : Bool) (v : Int) {n k : Nat} (hk : k < n) : (putV up v n)[k]? = some (v / 2 ^ (if up then n - 1 - k else k) % 2) := by
  unfold putV; rw [List.getElem?_map, List.getElem?_range hk]; rfl
theorem bit01 (y : Int) : y % 2 = 0 ∨ y % 2 = 1 := by omega
structure Ps (w wr : World) (q base : Nat) (A0 : Option Addr) (bs : List Int) (up : Bool) : Prop where
  ex : ∃ A c B, Wt wr q base A c B bs up ∧ (own A = own A0 ∨ ∀ b, own A = some b → w.heap.size ≤ b)
  chg : Chg w wr (WS q A0)
theorem Ps.step {w wr w2 : World} {q base : Nat} {A0 A A2 : Option Addr} {c2 : Nat} {B2 bs2 : List Int} {up : Bool} (h : Chg w wr (WS q A0)) (ho : own A = own A0 ∨ ∀ b, own A = some b → w.heap.size ≤ b)
    (hW : Wt w2 q base A2 c2 B2 bs2 up) (hc : Chg wr w2 (WS q A)) (ho2 : own A2 = own A ∨ ∀ b, own A2 = some b → wr.heap.size ≤ b) : Ps w w2 q base A0 bs2 up := by
  refine ⟨⟨A2, c2, B2, hW, ?_⟩, h.trans hc (fun i hi hS => ?_)⟩
  · rcases ho2 with e | e
    · rw [e]; exact ho
    · exact .inr (fun b hb => Nat.le_trans h.size (e b hb))
  · rcases hS with e | e
    · exact .inl e
    · rcases ho with e2 | e2
      · exact .inr (by rw [← e2]; exact e)
      · have := e2 i e; omega
set_option maxRecDepth 20000 in
set_option maxHeartbeats 2000000 in
theorem put_up {q base : Nat} {A : Option Addr} {c : Nat} {B bs : List Int} {v : Int} {n : Nat} (w : World) (HW : Wt w q base A c B bs true) (v0 : 0 ≤ v) (v1 : v < 4294967296) (hn : n ≤ 32) (hbig : bs.length + n ≤ 281474976710656) :
    Calls Tryz.prog 17 #[.pointer (some ⟨q, 0, none⟩), .int .u32 v, .int .i64 n] w (PutPost w q base A (bs ++ putV true v n) true) := by
  have HP : Hid (Ps w w q base A (bs ++ (putV true v n).take 0) true) := ⟨⟨A, c, B, by simpa using HW, .inl rfl⟩, Chg.refl _ _⟩
  clear HW
  go_enter Tryz.func17, Tryz.ntmps17
  go_wp2
  go_loopw [7, 17] (fun _ si wr => ∃ k : Nat, k ≤ n ∧ si = .int .i64 k ∧ Ps w wr q base A (bs ++ (putV true v n).take k) true) (fun _ si _ => n - (intOf si).toNat)
  case atStart => exact ⟨0, by omega, rfl, HP.out⟩
  case round =>
    clear HP
    obtain ⟨k, hk, rfl, hP⟩ := hrel
    obtain ⟨⟨A1, c1, B1, hW, ho⟩, hC⟩ := hP
    by_cases hlt : k < n
    · have hd : decide ((k : Int) < (n : Int)) = true := by simp; omega
      have k2 := hW.row.cell (i := 2) (by omega)
      simp only [wtF] at k2
      have HC := Lib.hid hC
      have HO := Lib.hid ho
      have hl : (bs ++ (putV true v n).take k).length < 281474976710656 := by
        rw [List.length_append, List.length_take, putV_len]; omega
      have hT := take_snoc (putV_get true v hlt)
      rw [if_pos rfl] at hT
      have HT := Lib.hid hT
      clear hT
      have z1 : 0 ≤ (n : Int) - 1 - (k : Int) := by omega
      have z2 : (n : Int) - 1 - (k : Int) ≤ 31 := by omega
      have z3 : ((n : Int) - 1 - (k : Int)).toNat = n - 1 - k := by omega
      have HWW := Lib.hid hW
      have hv1 : ∀ j : Nat, 0 ≤ v / 2 ^ j := fun j => Int.ediv_nonneg v0 (Int.pow_nonneg (by decide))
      have hv2 : ∀ j : Nat, v / 2 ^ j < 4294967296 := fun j => by
        have := Int.ediv_le_self (b := 2 ^ j) (a := v) v0
        omega
      have a1 := hv1 k
      have a2 := hv1 (n - 1 - k)
      have a3 := hv2 k
      have a4 := hv2 (n - 1 - k)
      have b1 : bits .and .u32 (v / 2 ^ k) 1 = v / 2 ^ k % 2 := by have := u32_and1 (v / 2 ^ k) a1; rwa [Int.emod_eq_of_lt a1 a3] at this
      have b2 : bits .and .u32 (v / 2 ^ (n - 1 - k)) 1 = v / 2 ^ (n - 1 - k) % 2 := by have := u32_and1 (v / 2 ^ (n - 1 - k)) a2; rwa [Int.emod_eq_of_lt a2 a4] at this
      clear hC ho hW hv1 hv2
      go_wp2_with fail
      refine (one_any _ HWW.out (bit01 _) hl).mono ?_
      rintro e w2 ⟨rfl, A2, c2, B2, hW2, hC2, hO2⟩
      have hPs := Ps.step HC.out HO.out hW2 hC2 hO2
      have HPs : Hid (Ps w w2 q base A (bs ++ (putV true v n).take (k + 1)) true) := by show Ps _ _ _ _ _ _ _; rw [HT.out, ← List.append_assoc]; exact hPs
      clear hW2 hC2 hO2 hPs b1 b2 k2 z1 z2 z3
      go_wp2
      go_roundw
      case rel => exact ⟨k + 1, by omega, by go_num, HPs.out⟩
      case measure => simp [intOf]; omega
    · have hd : decide ((k : Int) < (n : Int)) = false := by simp; omega
      obtain rfl : k = n := by omega
      have HC := Lib.hid hC
      have HO := Lib.hid ho
      have HWW : Hid (Wt wr q base A1 c1 B1 (bs ++ putV true v k) true) := by
        show Wt _ _ _ _ _ _ _ _
        rw [List.take_of_length_le (by rw [putV_len]; exact Nat.le_refl _)] at hW
        exact hW
      clear hC ho hW
      go_wp2
      go_ret
      exact ⟨rfl, _, _, _, HWW.out, HC.out, HO.out⟩
set_option maxRecDepth 20000 in
set_option maxHeartbeats 2000000 in
theorem put_lo {q base : Nat} {A : Option Addr} {c : Nat} {B bs : List Int} {v : Int} {n : Nat} (w : World) (HW : Wt w q base A c B bs false) (v0 : 0 ≤ v) (v1 : v < 4294967296) (hn : n ≤ 32) (hbig : bs.length + n ≤ 281474976710656) :
    Calls Tryz.prog 17 #[.pointer (some ⟨q, 0, none⟩), .int .u32 v, .int .i64 n] w (PutPost w q base A (bs ++ putV false v n) false) := by
  have HP : Hid (Ps w w q base A (bs ++ (putV false v n).take 0) false) := ⟨⟨A, c, B, by simpa using HW, .inl rfl⟩, Chg.refl _ _⟩
  clear HW
  go_enter Tryz.func17, Tryz.ntmps17
  go_wp2
  go_loopw [7, 17] (fun _ si wr => ∃ k : Nat, k ≤ n ∧ si = .int .i64 k ∧ Ps w wr q base A (bs ++ (putV false v n).take k) false) (fun _ si _ => n - (intOf si).toNat)
  case atStart => exact ⟨0, by omega, rfl, HP.out⟩
  case round =>
    clear HP
    obtain ⟨k, hk, rfl, hP⟩ := hrel
    obtain ⟨⟨A1, c1, B1, hW, ho⟩, hC⟩ := hP
    by_cases hlt : k < n
    · have hd : decide ((k : Int) < (n : Int)) = true := by simp; omega
      have k2 := hW.row.cell (i := 2) (by omega)
      simp only [wtF] at k2
      have HC := Lib.hid hC
      have HO := Lib.hid ho
      have hl : (bs ++ (putV false v n).take k).length < 281474976710656 := by
        rw [List.length_append, List.length_take, putV_len]; omega
      have hT := take_snoc (putV_get false v hlt)
      rw [if_neg (by simp)] at hT
      have HT := Lib.hid hT
      clear hT
      have z1 : 0 ≤ (n : Int) - 1 - (k : Int) := by omega
      have z2 : (n : Int) - 1 - (k : Int) ≤ 31 := by omega
      have z3 : ((n : Int) - 1 - (k : Int)).toNat = n - 1 - k := by omega
      have HWW := Lib.hid hW
      have hv1 : ∀ j : Nat, 0 ≤ v / 2 ^ j := fun j => Int.ediv_nonneg v0 (Int.pow_nonneg (by decide))
      have hv2 : ∀ j : Nat, v / 2 ^ j < 4294967296 := fun j => by
        have := Int.ediv_le_self (b := 2 ^ j) (a := v) v0
        omega
      have a1 := hv1 k
      have a2 := hv1 (n - 1 - k)
      have a3 := hv2 k
      have a4 := hv2 (n - 1 - k)
      have b1 : bits .and .u32 (v / 2 ^ k) 1 = v / 2 ^ k % 2 := by have := u32_and1 (v / 2 ^ k) a1; rwa [Int.emod_eq_of_lt a1 a3] at this
      have b2 : bits .and .u32 (v / 2 ^ (n - 1 - k)) 1 = v / 2 ^ (n - 1 - k) % 2 := by have := u32_and1 (v / 2 ^ (n - 1 - k)) a2; rwa [Int.emod_eq_of_lt a2 a4] at this
      clear hC ho hW hv1 hv2
      go_wp2_with fail
      refine (one_any _ HWW.out (bit01 _) hl).mono ?_
      rintro e w2 ⟨rfl, A2, c2, B2, hW2, hC2, hO2⟩
      have hPs := Ps.step HC.out HO.out hW2 hC2 hO2
      have HPs : Hid (Ps w w2 q base A (bs ++ (putV false v n).take (k + 1)) false) := by show Ps _ _ _ _ _ _ _; rw [HT.out, ← List.append_assoc]; exact hPs
      clear hW2 hC2 hO2 hPs b1 b2 k2 z1 z2 z3
      go_wp2
      go_roundw
      case rel => exact ⟨k + 1, by omega, by go_num, HPs.out⟩
      case measure => simp [intOf]; omega
    · have hd : decide ((k : Int) < (n : Int)) = false := by simp; omega
      obtain rfl : k = n := by omega
      have HC := Lib.hid hC
      have HO := Lib.hid ho
      have HWW : Hid (Wt wr q base A1 c1 B1 (bs ++ putV false v k) false) := by
        show Wt _ _ _ _ _ _ _ _
        rw [List.take_of_length_le (by rw [putV_len]; exact Nat.le_refl _)] at hW
        exact hW
      clear hC ho hW
      go_wp2
      go_ret
      exact ⟨rfl, _, _, _, HWW.out, HC.out, HO.out⟩
theorem put_any {q base : Nat} {A : Option Addr} {c : Nat} {B bs : List Int} {up : Bool} {v : Int} {n : Nat} (w : World) (HW : Wt w q base A c B bs up) (v0 : 0 ≤ v) (v1 : v < 4294967296) (hn : n ≤ 32) (hbig : bs.length + n ≤ 281474976710656) :
    Calls Tryz.prog 17 #[.pointer (some ⟨q, 0, none⟩), .int .u32 v, .int .i64 n] w (PutPost w q base A (bs ++ putV up v n) up) := by
  cases up
  · exact put_lo w HW v0 v1 hn hbig
  · exact put_up w HW v0 v1 hn hbig
def WBytesPost (w : World) (B : List Int) (e : Ending) (w' : World) : Prop := ∃ A' c', e = .returned (.slice A' B.length c') ∧ w'.ownsRow w.heap.size 5 1 (.slice A' B.length c') B.length (B.map (.int .u8)) ∧ Below w.heap.size w w'
theorem wbytes_any {q base : Nat} {A : Option Addr} {c : Nat} {B bs : List Int} {up : Bool} (w : World) (HW : Wt w q base A c B bs up) :
    Calls Tryz.prog 20 #[.pointer (some ⟨q, 0, none⟩)] w (WBytesPost w B) := by
  have c0 := HW.row.cell (i := 0) (by omega)
  simp only [wtF] at c0
  have hl := HW.len_le
  have hs : SI w .u8 A B.length B := SI.of_own HW.own (by show _ * 1 ≤ _; omega)
  clear HW
  go_enter Tryz.func20, Tryz.ntmps20
  go_wp2_with fail
  refine (clone_any _ hs).mono ?_
  rintro e w1 ⟨A', c', rfl, hown, hb⟩
  have HO := Lib.hid hown
  have HB := Lib.hid hb
  clear hown hb
  go_wp2
  go_ret
  exact ⟨A', c', rfl, HO.out, HB.out⟩
end Go.Proofs.YtmgbjgjlddifaaaGreat.Wrt
set_option linter.unusedVariables false
set_option linter.unusedSimpArgs false
namespace Go.Proofs.YtmgbjgjlddifaaaGreat.Srt
open Go.RowKit K

theorem isNaN_any (a : Int) (w : World) : Calls Tryz.prog 94 #[.int .i64 a] w fun e w' => e = .returned (.bool false) ∧ w = w' := by
  have h : (a != a) = false := by simp
  go_enter Tryz.func94, Tryz.ntmps94
  go_wp2
  go_ret
  exact ⟨rfl, rfl⟩
def cmpI (a b : Int) : Int := if a < b then -1 else if b < a then 1 else 0
theorem cmpI_neg (a b : Int) : decide (cmpI a b < 0) = decide (a < b) := by
  unfold cmpI
  by_cases h : a < b
  · rw [if_pos h]; simp [h]
  · rw [if_neg h]; by_cases h2 : b < a
    · rw [if_pos h2]; simp [h]
    · rw [if_neg h2]; simp [h]
set_option maxHeartbeats 400000 in
theorem compare_any (a b : Int) (w : World) : Calls Tryz.prog 73 #[.int .i64 a, .int .i64 b] w fun e w' => e = .returned (.int .i64 (cmpI a b)) ∧ w = w' := by
  by_cases h : a < b
  · have e0 : Hid (cmpI a b = -1) := by show cmpI a b = -1; unfold cmpI; rw [if_pos h]
    go_enter Tryz.func73, Tryz.ntmps73
    go_wp2_with (go_at_call 94; refine (isNaN_any _ _).mono ?_; rintro e w' ⟨rfl, rfl⟩)
    go_ret
    rw [e0.out]; exact ⟨rfl, rfl⟩
  · by_cases h2 : b < a
    · have e0 : Hid (cmpI a b = 1) := by show cmpI a b = 1; unfold cmpI; rw [if_neg h, if_pos h2]
      go_enter Tryz.func73, Tryz.ntmps73
      go_wp2_with (go_at_call 94; refine (isNaN_any _ _).mono ?_; rintro e w' ⟨rfl, rfl⟩)
      go_ret
      rw [e0.out]; exact ⟨rfl, rfl⟩
    · have e0 : Hid (cmpI a b = 0) := by show cmpI a b = 0; unfold cmpI; rw [if_neg h, if_neg h2]
      go_enter Tryz.func73, Tryz.ntmps73
      go_wp2_with (go_at_call 94; refine (isNaN_any _ _).mono ?_; rintro e w' ⟨rfl, rfl⟩)
      go_ret
      rw [e0.out]; exact ⟨rfl, rfl⟩
set_option maxHeartbeats 400000 in
theorem heavy_any (a : Int) (w : World) : Calls Tryz.prog 71 #[.int .i64 a] w fun e w' => e = .returned (.bool (decide (a < 0) || decide (1073741824 < a))) ∧ w = w' := by
  by_cases h : a < 0
  · go_enter Tryz.func71, Tryz.ntmps71
    go_wp2
    go_ret
    exact ⟨by simp [h], rfl⟩
  · go_enter Tryz.func71, Tryz.ntmps71
    go_wp2
    go_ret
    exact ⟨ret1 (ebool (by rw [decide_eq_false (by omega : ¬ a < 0), Bool.false_or])), rfl⟩

structure Coin where
  w : Int
  a : Option Addr
  n : Nat
  c : Nat
def Coin.sl (x : Coin) : Value := .slice x.a x.n x.c
def Coin.v (x : Coin) : Value := .agg #[.int .i64 x.w, .slice x.a x.n x.c]
set_option maxHeartbeats 400000 in
theorem lighter_any (x y : Coin) (w : World) : Calls Tryz.prog 72 #[.agg #[.int .i64 x.w, .slice x.a x.n x.c], .agg #[.int .i64 y.w, .slice y.a y.n y.c]] w
    fun e w' => e = .returned (.int .i64 (cmpI x.w y.w)) ∧ (w.alloc (.cells #[.int .i64 x.w, .slice x.a x.n x.c] 130)).alloc (.cells #[.int .i64 y.w, .slice y.a y.n y.c] 130) = w' := by
  go_enter Tryz.func72, Tryz.ntmps72
  go_wp2_with (go_at_call 73; refine (compare_any _ _ _).mono ?_; rintro e w' ⟨rfl, rfl⟩)
  go_ret
  exact ⟨rfl, rfl⟩

/-- block g holds n coins -/
def CB (w : World) (g n : Nat) (f : Nat → Coin) : Prop :=
  ∃ cur : Array Value, w.heap[g]? = some (.cells cur 130 (0, 0)) ∧ ∀ i, i < n → cur[i * 2]? = some (.int .i64 (f i).w) ∧ cur[i * 2 + 1]? = some (.slice (f i).a (f i).n (f i).c)
theorem CB.lt {w g n f} (h : CB w g n f) : g < w.heap.size := by
  obtain ⟨c, hb, _⟩ := h
  exact (Array.getElem?_eq_some_iff.1 hb).1
theorem CB.cell0 {w g n f} (h : CB w g n f) {i : Nat} (hi : i < n) : w.cell? ⟨g, i * 2, none⟩ = some (.int .i64 (f i).w) := by
  obtain ⟨c, hb, hc⟩ := h; simp [World.cell?, hb, (hc i hi).1]
theorem CB.cell1 {w g n f} (h : CB w g n f) {i : Nat} (hi : i < n) : w.cell? ⟨g, i * 2 + 1, none⟩ = some (.slice (f i).a (f i).n (f i).c) := by
  obtain ⟨c, hb, hc⟩ := h; simp [World.cell?, hb, (hc i hi).2]
theorem CB.frozen {w g n f} (h : CB w g n f) (i : Nat) : w.frozen? ⟨g, i, none⟩ = false := by
  obtain ⟨c, hb, hc⟩ := h; simp [World.frozen?, hb]
theorem CB.of_block {w w' g n f} (h : CB w g n f) (e : w'.heap[g]? = w.heap[g]?) : CB w' g n f := by
  obtain ⟨c, hb, hc⟩ := h; exact ⟨c, e.trans hb, hc⟩
theorem CB.congr {w g n f f'} (h : CB w g n f) (e : ∀ i, i < n → f i = f' i) : CB w g n f' := by
  obtain ⟨c, hb, hc⟩ := h; exact ⟨c, hb, fun i hi => by rw [← e i hi]; exact hc i hi⟩
theorem CB.below {w w' g n f B} (h : CB w g n f) (hb : Below B w w') (hg : g < B) : CB w' g n f := h.of_block (hb.block g hg)

def upd (f : Nat → Coin) (i : Nat) (x : Coin) : Nat → Coin := fun k => if k = i then x else f k
theorem CB.put {w g n f} (h : CB w g n f) {i : Nat} (hi : i < n) (x : Coin) :
    CB ((w.setCell ⟨g, i * 2, none⟩ (.int .i64 x.w)).setCell ⟨g, i * 2 + 1, none⟩ (.slice x.a x.n x.c)) g n (upd f i x) := by
  obtain ⟨cur, hb, hc⟩ := h
  have s1 := heap_setCell_same w g (i * 2) cur 130 (.int .i64 x.w) hb
  have s2 := heap_setCell_same (w.setCell ⟨g, i * 2, none⟩ (.int .i64 x.w)) g (i * 2 + 1) _ 130 (.slice x.a x.n x.c) s1
  refine ⟨_, s2, fun k hk => ?_⟩
  have h0 := Array.getElem?_eq_some_iff.1 (hc i hi).1
  have h1 := Array.getElem?_eq_some_iff.1 (hc i hi).2
  obtain ⟨l0, _⟩ := h0
  obtain ⟨l1, _⟩ := h1
  unfold upd
  by_cases e : k = i
  · subst e
    rw [if_pos rfl]
    constructor
    · rw [Array.getElem?_setIfInBounds, if_neg (by omega), Array.getElem?_setIfInBounds, if_pos rfl]; simp [l0]
    · rw [Array.getElem?_setIfInBounds, if_pos rfl]; simp [l1]
  · rw [if_neg e]
    constructor
    · rw [Array.getElem?_setIfInBounds, if_neg (by omega), Array.getElem?_setIfInBounds, if_neg (by omega)]; exact (hc k hk).1
    · rw [Array.getElem?_setIfInBounds, if_neg (by omega), Array.getElem?_setIfInBounds, if_neg (by omega)]; exact (hc k hk).2
def swp (f : Nat → Coin) (i j : Nat) : Nat → Coin := upd (upd f i (f j)) j (f i)
theorem CB.swap {w g n f} (h : CB w g n f) {i j : Nat} (hi : i < n) (hj : j < n) {x y : Coin} (hx : f i = x) (hy : f j = y) :
    CB (((((w.setCell ⟨g, i * 2, none⟩ (.int .i64 y.w)).setCell ⟨g, i * 2 + 1, none⟩ (.slice y.a y.n y.c)).setCell ⟨g, j * 2, none⟩ (.int .i64 x.w)).setCell ⟨g, j * 2 + 1, none⟩ (.slice x.a x.n x.c)).drew) g n (swp f i j) := by
  subst hx hy
  exact ((h.put hi (f j)).put hj (f i)).of_block rfl
theorem grown_swap {w wr : World} {g : Nat} (h : w.grownBy wr (some g)) (i j k l : Nat) (a b c d : Value) :
    w.grownBy (((((wr.setCell ⟨g, i, none⟩ a).setCell ⟨g, j, none⟩ b).setCell ⟨g, k, none⟩ c).setCell ⟨g, l, none⟩ d).drew) (some g) :=
  grown_drew (grown_set (grown_set (grown_set (grown_set h _ _) _ _) _ _) _ _)

/-- after k swaps of the ranges at a and b -/
def swr (f : Nat → Coin) (a b k : Nat) : Nat → Coin := fun i => if a ≤ i ∧ i < a + k then f (b + (i - a)) else if b ≤ i ∧ i < b + k then f (a + (i - b)) else f i
theorem swr_succ (f : Nat → Coin) (a b k : Nat) (h : a + (k + 1) ≤ b) : swp (swr f a b k) (a + k) (b + k) = swr f a b (k+1) := by
  funext i
  unfold swp upd swr
  by_cases h1 : i = b + k
  · subst h1
    rw [if_pos rfl, if_neg (by omega), if_neg (by omega), if_neg (by omega), if_pos (by omega)]; congr 1; omega
  · rw [if_neg h1]
    by_cases h2 : i = a + k
    · subst h2
      rw [if_pos rfl, if_neg (by omega), if_neg (by omega), if_pos (by omega)]; congr 1; omega
    · rw [if_neg h2]
      by_cases h3 : a ≤ i ∧ i < a + k
      · rw [if_pos h3, if_pos (by omega)]
      · rw [if_neg h3]
        by_cases h4 : b ≤ i ∧ i < b + k
        · rw [if_pos h4, if_neg (by omega), if_pos (by omega)]
        · rw [if_neg h4, if_neg (by omega), if_neg (by omega)]
theorem swr_zero (f : Nat → Coin) (a b : Nat) : swr f a b 0 = f := by
  funext i; unfold swr; rw [if_neg (by omega), if_neg (by omega)]

set_option maxHeartbeats 1000000 in
theorem swapRange_any {g n c a b m : Nat} {f : Nat → Coin} {fv : Value} (w : World) (h : CB w g n f) (h1 : a + m ≤ b) (h2 : b + m ≤ n) (hn : n ≤ 1073741824) :
    Calls Tryz.prog 105 #[.slice (some ⟨g, 0, none⟩) n c, .int .i64 a, .int .i64 b, .int .i64 m, fv] w fun e w' => e = .returned (.tuple #[]) ∧ w.grownBy w' (some g) ∧ CB w' g n (swr f a b m) := by
  go_enter Tryz.func105, Tryz.ntmps105
  go_wp2
  go_loopw [10] (fun i wr => ∃ k : Nat, k ≤ m ∧ i = .int .i64 k ∧ CB wr g n (swr f a b k) ∧ w.grownBy wr (some g)) (fun i _ => m - (intOf i).toNat)
  case atStart => exact ⟨0, by omega, rfl, by rw [swr_zero]; exact h, World.grownBy.refl _ _⟩
  case round =>
    clear h
    obtain ⟨k, hk, rfl, h, hg⟩ := hrel
    by_cases hlt : k < m
    · have a0 := h.cell0 (i := a + k) (by omega)
      have a1 := h.cell1 (i := a + k) (by omega)
      have b0 := h.cell0 (i := b + k) (by omega)
      have b1 := h.cell1 (i := b + k) (by omega)
      have e0 := h.frozen ((a + k) * 2)
      have e1 := h.frozen ((a + k) * 2 + 1)
      have e2 := h.frozen ((b + k) * 2)
      have e3 := h.frozen ((b + k) * 2 + 1)
      have hd : decide ((k : Int) < m) = true := by simp; omega
      have hs := Lib.hid (swr_succ f a b k (by omega))
      have HC := fun x y => Lib.hid (h.swap (i := a + k) (j := b + k) (by omega) (by omega) (x := x) (y := y))
      generalize hx : swr f a b k (a + k) = x at *
      generalize hy : swr f a b k (b + k) = y at *
      have HX := Lib.hid hx
      have HY := Lib.hid hy
      have HCC := Lib.hid HC
      clear hx hy HC
      go_wp2
      go_region
      go_wp2
      go_roundw
      case rel => exact ⟨k + 1, by omega, by go_num, by rw [← hs.out]; exact h.swap (by omega) (by omega) HX.out HY.out, grown_swap hg _ _ _ _ _ _ _ _⟩
      case measure => simp [intOf]; omega
    · obtain rfl : k = m := by omega
      go_wp2
      go_end0
      exact ⟨rfl, hg, h⟩

/-- weights of neighbours in [a, b) do not fall -/
def Srtd (f : Nat → Coin) (a b : Nat) : Prop := ∀ i j, a ≤ i → i ≤ j → j < b → (f i).w ≤ (f j).w
/-- f' is f, permuted within [a, b) -/
def Pw (a b : Nat) (f f' : Nat → Coin) : Prop := ∃ s t : Nat → Nat, (∀ i, t (s i) = i) ∧ (∀ i, s (t i) = i) ∧ (∀ i, ¬ (a ≤ i ∧ i < b) → s i = i) ∧ ∀ i, f' i = f (s i)
theorem Pw.refl (a b f) : Pw a b f f := ⟨id, id, fun _ => rfl, fun _ => rfl, fun _ _ => rfl, fun _ => rfl⟩
theorem Pw.trans {a b f g h} (p : Pw a b f g) (q : Pw a b g h) : Pw a b f h := by
  obtain ⟨s, t, h1, h2, h3, h4⟩ := p
  obtain ⟨s', t', k1, k2, k3, k4⟩ := q
  exact ⟨s ∘ s', t' ∘ t, fun i => by simp [h1, k1], fun i => by simp [h2, k2], fun i hi => by simp [k3 i hi, h3 i hi], fun i => by simp [k4, h4]⟩
theorem Pw.mono {a b a' b' f g} (p : Pw a b f g) (h1 : a' ≤ a) (h2 : b ≤ b') : Pw a' b' f g := by
  obtain ⟨s, t, k1, k2, k3, k4⟩ := p
  exact ⟨s, t, k1, k2, fun i hi => k3 i (by omega), k4⟩
theorem Pw.off {a b f g} (p : Pw a b f g) {i : Nat} (hi : ¬ (a ≤ i ∧ i < b)) : g i = f i := by
  obtain ⟨s, t, k1, k2, k3, k4⟩ := p
  rw [k4, k3 i hi]
theorem Pw.from {a b f g} (p : Pw a b f g) {i : Nat} (h1 : a ≤ i) (h2 : i < b) : ∃ k, a ≤ k ∧ k < b ∧ g i = f k := by
  obtain ⟨s, t, k1, k2, k3, k4⟩ := p
  by_cases h : a ≤ s i ∧ s i < b
  · exact ⟨s i, h.1, h.2, k4 i⟩
  · exfalso
    have := k3 (s i) h
    have e := congrArg t this
    rw [k1, k1] at e
    omega
theorem Pw.swp {a b : Nat} (f : Nat → Coin) {i j : Nat} (hi1 : a ≤ i) (hi2 : i < b) (hj1 : a ≤ j) (hj2 : j < b) : Pw a b f (Srt.swp f i j) := by
  let s : Nat → Nat := fun k => if k = j then i else if k = i then j else k
  have hs : ∀ k, s (s k) = k := by
    intro k
    simp only [s]
    by_cases h1 : k = j
    · subst h1
      rw [if_pos rfl]
      by_cases h2 : i = k
      · rw [if_pos h2]; exact h2
      · rw [if_neg h2, if_pos rfl]
    · rw [if_neg h1]
      by_cases h2 : k = i
      · rw [if_pos h2, if_pos rfl]; exact h2.symm
      · rw [if_neg h2, if_neg h1, if_neg h2]
  refine ⟨s, s, hs, hs, fun k hk => ?_, fun k => ?_⟩
  · simp only [s]; rw [if_neg (by omega), if_neg (by omega)]
  · simp only [s, Srt.swp, upd]
    by_cases h1 : k = j
    · rw [if_pos h1, if_pos h1]
    · rw [if_neg h1, if_neg h1]
      by_cases h2 : k = i
      · rw [if_pos h2, if_pos h2]
      · rw [if_neg h2, if_neg h2]
theorem Pw.swr {a b lo hi : Nat} (f : Nat → Coin) (m : Nat) (h : a + m ≤ b) (h1 : lo ≤ a) (h2 : b + m ≤ hi) : Pw lo hi f (Srt.swr f a b m) := by
  induction m with
  | zero => rw [swr_zero]; exact Pw.refl _ _ _
  | succ m ih =>
    rw [← swr_succ f a b m h]
    exact (ih (by omega) (by omega)).trans (Pw.swp _ (by omega) (by omega) (by omega) (by omega))
/-- f' is f, permuted within [a, b), and coins of one weight keep their order -/
def Pm (a b : Nat) (f f' : Nat → Coin) : Prop := ∃ s t : Nat → Nat, (∀ i, t (s i) = i) ∧ (∀ i, s (t i) = i) ∧ (∀ i, ¬ (a ≤ i ∧ i < b) → s i = i) ∧ (∀ i, f' i = f (s i)) ∧ ∀ i j, i < j → (f' i).w = (f' j).w → s i < s j
theorem Pm.weak {a b f g} (p : Pm a b f g) : Pw a b f g := by
  obtain ⟨s, t, h1, h2, h3, h4, -⟩ := p
  exact ⟨s, t, h1, h2, h3, h4⟩
theorem Pm.refl (a b f) : Pm a b f f := ⟨id, id, fun _ => rfl, fun _ => rfl, fun _ _ => rfl, fun _ => rfl, fun _ _ h _ => h⟩
theorem Pm.trans {a b f g h} (p : Pm a b f g) (q : Pm a b g h) : Pm a b f h := by
  obtain ⟨s, t, h1, h2, h3, h4, h5⟩ := p
  obtain ⟨s', t', k1, k2, k3, k4, k5⟩ := q
  exact ⟨s ∘ s', t' ∘ t, fun i => by simp [h1, k1], fun i => by simp [h2, k2], fun i hi => by simp [k3 i hi, h3 i hi], fun i => by simp [k4, h4], fun i j hij e => h5 _ _ (k5 i j hij e) (by rw [← k4, ← k4]; exact e)⟩
theorem Pm.mono {a b a' b' f g} (p : Pm a b f g) (h1 : a' ≤ a) (h2 : b ≤ b') : Pm a' b' f g := by
  obtain ⟨s, t, k1, k2, k3, k4, k5⟩ := p
  exact ⟨s, t, k1, k2, fun i hi => k3 i (by omega), k4, k5⟩
theorem Pm.off {a b f g} (p : Pm a b f g) {i : Nat} (hi : ¬ (a ≤ i ∧ i < b)) : g i = f i := p.weak.off hi
theorem Pm.from {a b f g} (p : Pm a b f g) {i : Nat} (h1 : a ≤ i) (h2 : i < b) : ∃ k, a ≤ k ∧ k < b ∧ g i = f k := p.weak.from h1 h2
/-- two neighbours of unlike weights change places -/
theorem Pm.swp {a b : Nat} (f : Nat → Coin) {i j : Nat} (hi1 : a ≤ i) (hi2 : i < b) (hj1 : a ≤ j) (hj2 : j < b) (hw : (i = j + 1 ∨ j = i + 1) ∧ (f i).w ≠ (f j).w) : Pm a b f (Srt.swp f i j) := by
  obtain ⟨s, hs, hs1, hs2⟩ : ∃ s : Nat → Nat, s = (fun k => if k = j then i else if k = i then j else k) ∧ (∀ k, s (s k) = k) ∧ ∀ k, Srt.swp f i j k = f (s k) := by
    refine ⟨_, rfl, fun k => ?_, fun k => ?_⟩
    · by_cases h1 : k = j
      · subst h1
        rw [if_pos rfl]
        by_cases h2 : i = k
        · rw [if_pos h2]; exact h2
        · rw [if_neg h2, if_pos rfl]
      · rw [if_neg h1]
        by_cases h2 : k = i
        · rw [if_pos h2, if_pos rfl]; exact h2.symm
        · rw [if_neg h2, if_neg h1, if_neg h2]
    · simp only [Srt.swp, upd]
      by_cases h1 : k = j
      · rw [if_pos h1, if_pos h1]
      · rw [if_neg h1, if_neg h1]
        by_cases h2 : k = i
        · rw [if_pos h2, if_pos h2]
        · rw [if_neg h2, if_neg h2]
  have e : ∀ k, s k = if k = j then i else if k = i then j else k := fun k => by rw [hs]
  refine ⟨s, s, hs1, hs1, fun k hk => ?_, hs2, fun p q hpq he => ?_⟩
  · rw [e, if_neg (by omega), if_neg (by omega)]
  · rw [hs2, hs2] at he
    have hne : ¬ ((p = i ∧ q = j) ∨ (p = j ∧ q = i)) := fun h => by
      rcases h with ⟨rfl, rfl⟩ | ⟨rfl, rfl⟩
      · rw [e p, e q, if_neg (by omega), if_pos rfl, if_pos rfl] at he; exact hw.2 he.symm
      · rw [e p, e q, if_pos rfl, if_neg (by omega), if_pos rfl] at he; exact hw.2 he
    rw [e, e]
    have := hw.1
    split <;> split <;> (try split) <;> (try split) <;> omega
end Go.Proofs.YtmgbjgjlddifaaaGreat.Srt
set_option linter.unusedVariables false
set_option linter.unusedSimpArgs false
namespace Go.Proofs.YtmgbjgjlddifaaaGreat.Srt
open Go.RowKit K Go.Sort

theorem lighter_grown {x y : Coin} {W : World} {n : Nat} {os : Array Obj} :
    Calls Tryz.prog 72 #[.agg #[.int .i64 x.w, .slice x.a x.n x.c], .agg #[.int .i64 y.w, .slice y.a y.n y.c]] (grow (W.drewN n) os)
      fun e w'' => e = .returned (.int .i64 (cmpI x.w y.w)) ∧ ∃ p : GrownBy, w'' = grow (W.drewN p.n) p.os :=
  Calls.grown_of ((lighter_any x y _).mono fun e w' ⟨he, hw⟩ => ⟨he, 0, #[.cells #[.int .i64 x.w, .slice x.a x.n x.c] 130, .cells #[.int .i64 y.w, .slice y.a y.n y.c] 130], by
    rw [← hw, alloc_eq_grow, alloc_eq_grow, grow_grow]; rfl⟩)
theorem heap_grow (w : World) (os : Array Obj) (k : Nat) (h : k < w.heap.size) : (grow w os).heap[k]? = w.heap[k]? := by
  simp [grow, Array.getElem?_append, h]
theorem CB.grown {w : World} {g n f} (h : CB w g n f) (m : Nat) (os : Array Obj) : CB (grow (w.drewN m) os) g n f := h.of_block (heap_grow (w.drewN m) os g h.lt)
theorem grown_grow {w wr : World} {row : Option Nat} (h : w.grownBy wr row) (m : Nat) (os : Array Obj) : w.grownBy (grow (wr.drewN m) os) row :=
  ⟨h.os, h.tape, h.output, by simp [grow]; have := h.size; omega, fun i hi hne => (heap_grow (wr.drewN m) os i (Nat.lt_of_lt_of_le hi h.size)).trans (h.block i hi hne)⟩
def Ins (f : Nat → Coin) (a i j : Nat) : Prop :=
  (∀ p q, a ≤ p → p ≤ q → q ≤ i → p ≠ j → q ≠ j → (f p).w ≤ (f q).w) ∧ (∀ p, j < p → p ≤ i → (f j).w ≤ (f p).w)
theorem Ins.start {f a i} (h : Srtd f a i) : Ins f a i i := ⟨fun p q h1 h2 h3 h4 h5 => h p q h1 h2 (by omega), fun p h1 h2 => by omega⟩
theorem swp_i (f : Nat → Coin) {i j : Nat} (h : i ≠ j) : swp f i j i = f j := by unfold swp upd; rw [if_neg h, if_pos rfl]
theorem swp_j (f : Nat → Coin) (i j : Nat) : swp f i j j = f i := by unfold swp upd; rw [if_pos rfl]
theorem swp_o (f : Nat → Coin) {i j k : Nat} (h1 : k ≠ i) (h2 : k ≠ j) : swp f i j k = f k := by unfold swp upd; rw [if_neg h2, if_neg h1]
theorem Ins.step {f a i j} (h : Ins f a i (j+1)) (ha : a ≤ j) (hj : j + 1 ≤ i) (hlt : (f (j+1)).w < (f j).w) : Ins (swp f (j+1) j) a i j := by
  obtain ⟨h1, h2⟩ := h
  refine ⟨fun p q k1 k2 k3 k4 k5 => ?_, fun p k1 k2 => ?_⟩
  · by_cases e1 : p = j + 1
    · subst e1
      by_cases e2 : q = j + 1
      · subst e2; exact Int.le_refl _
      · rw [swp_i f (by omega), swp_o f e2 k5]; exact h1 j q ha (by omega) k3 (by omega) e2
    · by_cases e2 : q = j + 1
      · subst e2; rw [swp_i f (by omega), swp_o f e1 k4]; exact h1 p j k1 (by omega) (by omega) e1 (by omega)
      · rw [swp_o f e1 k4, swp_o f e2 k5]; exact h1 p q k1 k2 k3 e1 e2
  · rw [swp_j]
    by_cases e1 : p = j + 1
    · subst e1; rw [swp_i f (by omega)]; omega
    · rw [swp_o f e1 (by omega)]; exact h2 p (by omega) k2
theorem Ins.done0 {f a i} (h : Ins f a i a) : Srtd f a (i+1) := fun p q k1 k2 k3 => by
  by_cases e : q = a
  · obtain rfl : p = q := by omega
    exact Int.le_refl _
  · by_cases e2 : p = a
    · subst e2; exact h.2 q (by omega) (by omega)
    · exact h.1 p q k1 k2 (by omega) e2 e
theorem Ins.done {f a i j} (h : Ins f a i (j+1)) (ha : a ≤ j) (hj : j + 1 ≤ i) (hle : ¬ (f (j+1)).w < (f j).w) : Srtd f a (i+1) := fun p q k1 k2 k3 => by
  by_cases e : q = j + 1
  · subst e
    by_cases e2 : p = j + 1
    · subst e2; exact Int.le_refl _
    · have := h.1 p j k1 (by omega) (by omega) e2 (by omega); omega
  · by_cases e2 : p = j + 1
    · subst e2; exact h.2 q (by omega) (by omega)
    · exact h.1 p q k1 k2 (by omega) e2 e

theorem Srtd.one (f : Nat → Coin) (a : Nat) : Srtd f a (a + 1) := fun p q k1 k2 k3 => by
  obtain rfl : p = q := by omega
  exact Int.le_refl _
def InsPost (w : World) (g n a b : Nat) (f : Nat → Coin) (e : Ending) (w' : World) : Prop :=
  ∃ f', e = .returned (.tuple #[]) ∧ w.grownBy w' (some g) ∧ CB w' g n f' ∧ Pm a b f f' ∧ Srtd f' a b
set_option maxHeartbeats 2000000 in
theorem insertion_any {g n c a b : Nat} {f : Nat → Coin} (w : World) (h : CB w g n f) (h1 : a ≤ b) (h2 : b ≤ n) (hn : n ≤ 1073741824) :
    Calls Tryz.prog 101 #[.slice (some ⟨g, 0, none⟩) n c, .int .i64 a, .int .i64 b, .func (.func 72) #[] #[]] w (InsPost w g n a b f) := by
  go_enter Tryz.func101, Tryz.ntmps101
  go_wp2
  go_loopw [8, 9] (fun i _ wr => ∃ (k : Nat) (f' : Nat → Coin), a + 1 ≤ k ∧ k ≤ b + 1 ∧ (k ≤ b ∨ a = b) ∧ i = .int .i64 k ∧ CB wr g n f' ∧ w.grownBy wr (some g) ∧ Pm a b f f' ∧ Srtd f' a k) (fun i _ _ => b + 1 - (intOf i).toNat)
  case atStart => exact ⟨a + 1, f, by omega, by omega, by omega, by go_num, h, World.grownBy.refl _ _, Pm.refl _ _ _, Srtd.one _ _⟩
  case round =>
    clear h
    obtain ⟨k, f', hk1, hk2, hk3, rfl, h, hg, hP, hS⟩ := hrel
    obtain ⟨wo, rfl⟩ : ∃ wo : World, wo = wr := ⟨_, rfl⟩
    have HP := Lib.hid hP
    have HS := Lib.hid hS
    clear hP hS
    by_cases hlt : k < b
    · have hd : decide ((k : Int) < b) = true := by simp; omega
      go_wp2
      go_loopw [9] (fun jv wr => ∃ (j : Nat) (f' : Nat → Coin), a ≤ j ∧ j ≤ k ∧ jv = .int .i64 j ∧ CB wr g n f' ∧ w.grownBy wr (some g) ∧ Hid (Pm a b f f') ∧ Hid (Ins f' a k j)) (fun jv _ => (intOf jv).toNat)
      case atStart => exact ⟨k, f', by omega, by omega, rfl, h, hg, HP, Ins.start HS.out⟩
      case round =>
        clear h hg HP HS
        obtain ⟨j, f2, hj1, hj2, rfl, h, hg, HP, HI⟩ := hrel
        by_cases hja : a < j
        · have hd2 : decide ((a : Int) < (j : Int)) = true := by simp; omega
          have a0 := h.cell0 (i := j) (by omega)
          have a1 := h.cell1 (i := j) (by omega)
          have b0 := h.cell0 (i := j - 1) (by omega)
          have b1 := h.cell1 (i := j - 1) (by omega)
          have e0 := h.frozen (j * 2)
          have e1 := h.frozen (j * 2 + 1)
          have e2 := h.frozen ((j - 1) * 2)
          have e3 := h.frozen ((j - 1) * 2 + 1)
          have A0 := fun n os => cell_grown h.lt a0 n os
          have A1 := fun n os => cell_grown h.lt a1 n os
          have B0 := fun n os => cell_grown h.lt b0 n os
          have B1 := fun n os => cell_grown h.lt b1 n os
          by_cases hcm : (f2 j).w < (f2 (j - 1)).w
          · have hcb : decide (cmpI (f2 j).w (f2 (j - 1)).w < 0) = true := by rw [cmpI_neg]; simp [hcm]
            have HNE : Hid ((f2 j).w ≠ (f2 (j - 1)).w) := by show _ ≠ _; omega
            have HCM := Lib.hid hcm
            clear hcm
            go_wp2
            refine wp_region_quiet_grown (by kernel_rfl) (by kernel_rfl) ?_
            repeat (first | go_big_quiet_step ((go_at_call 72; exact lighter_grown)) | quiet_step ((go_at_call 72; exact lighter_grown)))
            refine wpQuiet_nil ?_
            intro _ hw'
            obtain ⟨⟨nq, osq⟩, hw''⟩ := hw'
            subst hw''
            have h3 := h.grown nq osq
            have hg3 := grown_grow hg nq osq
            generalize grow (wr.drewN nq) osq = W2 at *
            clear A0 A1 B0 B1 a0 a1 b0 b1 e0 e1 e2 e3 h hg
            have a0 := h3.cell0 (i := j) (by omega)
            have a1 := h3.cell1 (i := j) (by omega)
            have b0 := h3.cell0 (i := j - 1) (by omega)
            have b1 := h3.cell1 (i := j - 1) (by omega)
            have e0 := h3.frozen (j * 2)
            have e1 := h3.frozen (j * 2 + 1)
            have e2 := h3.frozen ((j - 1) * 2)
            have e3 := h3.frozen ((j - 1) * 2 + 1)
            have hs := h3.swap (i := j) (j := j - 1) (by omega) (by omega) rfl rfl
            have HI2 : Ins (swp f2 j (j - 1)) a k (j - 1) := by
              obtain ⟨q, rfl⟩ : ∃ q, j = q + 1 := ⟨j - 1, by omega⟩
              rw [Nat.add_sub_cancel] at HCM ⊢
              exact HI.out.step (by omega) (by omega) HCM.out
            go_wp2
            go_region
            go_wp2
            go_roundw
            case rel => exact ⟨j - 1, _, by omega, by omega, by go_num, hs, grown_swap hg3 _ _ _ _ _ _ _ _, HP.out.trans (Pm.swp _ (by omega) (by omega) (by omega) (by omega) ⟨.inl (by omega), HNE.out⟩), HI2⟩
            case measure => simp [intOf]; omega
          · have hcb : decide (cmpI (f2 j).w (f2 (j - 1)).w < 0) = false := by rw [cmpI_neg]; simp; omega
            have HCM := Lib.hid hcm
            clear hcm
            go_wp2
            refine wp_region_quiet_grown (by kernel_rfl) (by kernel_rfl) ?_
            repeat (first | go_big_quiet_step ((go_at_call 72; exact lighter_grown)) | quiet_step ((go_at_call 72; exact lighter_grown)))
            refine wpQuiet_nil ?_
            intro _ hw'
            obtain ⟨⟨nq, osq⟩, hw''⟩ := hw'
            subst hw''
            have h3 := h.grown nq osq
            have hg3 := grown_grow hg nq osq
            generalize grow (wr.drewN nq) osq = W2 at *
            have HS : Srtd f2 a (k + 1) := by
              obtain ⟨q, rfl⟩ : ∃ q, j = q + 1 := ⟨j - 1, by omega⟩
              rw [Nat.add_sub_cancel] at HCM
              exact HI.out.done (by omega) (by omega) (by have := HCM.out; omega)
            have HS2 := Lib.hid HS
            clear HS A0 A1 B0 B1 a0 a1 b0 b1 h hg
            go_wp2
            go_roundw
            case rel => exact ⟨k + 1, f2, by omega, by omega, by omega, by go_num, h3, hg3, HP.out, HS2.out⟩
            case measure => simp [intOf]; omega
        · obtain rfl : j = a := by omega
          have hd2 : decide ((j : Int) < (j : Int)) = false := by simp
          have HS2 := Lib.hid (HI.out.done0)
          go_wp2
          go_quiet (fail)
          go_wp2
          go_roundw
          case rel => exact ⟨k + 1, f2, by omega, by omega, by omega, by go_num, h.grown _ #[], grown_drewN hg _, HP.out, HS2.out⟩
          case measure => simp [intOf]; omega
    · go_wp2
      go_end0
      have : Srtd f' a b := by
        rcases (by omega : k = b ∨ a = b) with rfl | rfl
        · exact HS.out
        · intro p q k1 k2 k3; omega
      exact ⟨f', rfl, hg, h, HP.out, this⟩
end Go.Proofs.YtmgbjgjlddifaaaGreat.Srt
set_option linter.unusedVariables false
set_option linter.unusedSimpArgs false
namespace Go.Proofs.YtmgbjgjlddifaaaGreat.Srt
open Go.RowKit K Go.Sort

theorem swapRange_at {g n c a b m : Nat} {A B M : Int} {f : Nat → Coin} {fv : Value} (w : World) (h : CB w g n f) (h1 : a + m ≤ b) (h2 : b + m ≤ n) (hn : n ≤ 1073741824) (hA : A = a) (hB : B = b) (hM : M = m) :
    Calls Tryz.prog 105 #[.slice (some ⟨g, 0, none⟩) n c, .int .i64 A, .int .i64 B, .int .i64 M, fv] w fun e w' => e = .returned (.tuple #[]) ∧ w.grownBy w' (some g) ∧ CB w' g n (swr f a b m) := by
  subst hA hB hM; exact swapRange_any w h h1 h2 hn

def rot (f : Nat → Coin) (a m b : Nat) : Nat → Coin := fun k => if a ≤ k ∧ k < a + (b - m) then f (k + (m - a)) else if a + (b - m) ≤ k ∧ k < b then f (k - (b - m)) else f k
theorem rot_gt (f : Nat → Coin) (m i j : Nat) (h0 : i ≤ m) (h1 : j < i) (hj : 1 ≤ j) : rot (swr f (m - i) m j) (m - (i - j)) m (m + j) = rot f (m - i) m (m + j) := by
  funext k
  unfold rot swr
  repeat' split
  all_goals first | rfl | (exfalso; omega) | (congr 1; omega)
theorem rot_lt (f : Nat → Coin) (m i j : Nat) (h0 : i ≤ m) (h1 : i < j) (hi : 1 ≤ i) : rot (swr f (m - i) (m + j - i) i) (m - i) m (m + (j - i)) = rot f (m - i) m (m + j) := by
  funext k
  unfold rot swr
  repeat' split
  all_goals first | rfl | (exfalso; omega) | (congr 1; omega)
theorem rot_eq (f : Nat → Coin) (m i : Nat) (h0 : i ≤ m) : swr f (m - i) m i = rot f (m - i) m (m + i) := by
  funext k
  unfold rot swr
  repeat' split
  all_goals first | rfl | (exfalso; omega) | (congr 1; omega)

set_option maxHeartbeats 1000000 in
theorem rotate_at {g n c a m b : Nat} {A M B : Int} {f : Nat → Coin} {fv : Value} (w : World) (h : CB w g n f) (h1 : a < m) (h2 : m < b) (h3 : b ≤ n) (hn : n ≤ 1073741824) (hA : A = a) (hM : M = m) (hB : B = b) :
    Calls Tryz.prog 104 #[.slice (some ⟨g, 0, none⟩) n c, .int .i64 A, .int .i64 M, .int .i64 B, fv] w fun e w' => e = .returned (.tuple #[]) ∧ w.grownBy w' (some g) ∧ CB w' g n (rot f a m b) ∧ Pw a b f (rot f a m b) := by
  subst hA hM hB
  go_enter Tryz.func104, Tryz.ntmps104
  go_wp2
  go_loopw [10, 11] (fun iv jv wr => ∃ (i j : Nat) (f' : Nat → Coin), 1 ≤ i ∧ 1 ≤ j ∧ i ≤ m - a ∧ j ≤ b - m ∧ iv = .int .i64 i ∧ jv = .int .i64 j ∧ CB wr g n f' ∧ w.grownBy wr (some g) ∧ Hid (Pw a b f f') ∧ Hid (rot f' (m - i) m (m + j) = rot f a m b)) (fun iv jv _ => (intOf iv).toNat + (intOf jv).toNat)
  case atStart => exact ⟨m - a, b - m, f, by omega, by omega, by omega, by omega, eint (by omega), eint (by omega), h, World.grownBy.refl _ _, Pw.refl _ _ _, by
    show rot f _ _ _ = _
    rw [show m - (m - a) = a by omega, show m + (b - m) = b by omega]⟩
  case round =>
    clear h
    obtain ⟨i, j, f', hi1, hj1, hi2, hj2, rfl, rfl, h, hg, HP, HR⟩ := hrel
    by_cases hij : i = j
    · subst hij
      have hb : ((i : Int) != (i : Int)) = false := by simp
      go_wp2_with (go_at_call 105; refine (swapRange_at (a := m - i) (b := m) (m := i) _ h (by omega) (by omega) hn (by omega) rfl rfl).mono ?_; rintro e w' ⟨rfl, hg2, hc2⟩)
      go_end0
      have e1 : swr f' (m - i) m i = rot f a m b := by rw [rot_eq f' m i (by omega)]; exact HR.out
      rw [e1] at hc2
      refine ⟨rfl, grown_trans hg hg2, hc2, ?_⟩
      rw [← e1]
      exact HP.out.trans (Pw.swr f' i (by omega) (by omega) (by omega))
    · have hb : ((i : Int) != (j : Int)) = true := by simp; omega
      have HIJ := Lib.hid hij
      clear hij
      by_cases hgt : j < i
      · have hd : decide ((j : Int) < (i : Int)) = true := by simp; omega
        go_wp2_with (go_at_call 105; refine (swapRange_at (a := m - i) (b := m) (m := j) _ h (by omega) (by omega) hn (by omega) rfl rfl).mono ?_; rintro e w' ⟨rfl, hg2, hc2⟩)
        go_roundw
        case rel => exact ⟨i - j, j, _, by omega, by omega, by omega, by omega, eint (by omega), rfl, hc2, grown_trans hg hg2, HP.out.trans (Pw.swr f' j (by omega) (by omega) (by omega)), by
          show rot (swr f' (m - i) m j) _ _ _ = _
          rw [rot_gt f' m i j (by omega) (by omega) (by omega)]; exact HR.out⟩
        case measure => simp [intOf]; omega
      · have hd : decide ((j : Int) < (i : Int)) = false := by simp; omega
        have hlt : i < j := by have := HIJ.out; omega
        go_wp2_with (go_at_call 105; refine (swapRange_at (a := m - i) (b := m + j - i) (m := i) _ h (by omega) (by omega) hn (by omega) (by omega) rfl).mono ?_; rintro e w' ⟨rfl, hg2, hc2⟩)
        go_roundw
        case rel => exact ⟨i, j - i, _, by omega, by omega, by omega, by omega, rfl, eint (by omega), hc2, grown_trans hg hg2, HP.out.trans (Pw.swr f' i (by omega) (by omega) (by omega)), by
          show rot (swr f' (m - i) (m + j - i) i) _ _ _ = _
          rw [rot_lt f' m i j (by omega) hlt (by omega)]; exact HR.out⟩
        case measure => simp [intOf]; omega
end Go.Proofs.YtmgbjgjlddifaaaGreat.Srt
set_option linter.unusedVariables false
set_option linter.unusedSimpArgs false
namespace Go.Proofs.YtmgbjgjlddifaaaGreat.Srt
open Go.RowKit K

/-- coin a is moved right to place k -/
def mvr (f : Nat → Coin) (a k : Nat) : Nat → Coin := fun p => if a ≤ p ∧ p < k then f (p + 1) else if p = k then f a else f p
theorem mvr_zero (f : Nat → Coin) (a : Nat) : mvr f a a = f := by
  funext p; unfold mvr; rw [if_neg (by omega)]; split
  · rename_i h; rw [h]
  · rfl
theorem mvr_succ (f : Nat → Coin) (a k : Nat) (h : a ≤ k) : swp (mvr f a k) k (k+1) = mvr f a (k+1) := by
  funext p; unfold swp upd mvr
  by_cases h1 : p = k + 1
  · subst h1; rw [if_pos rfl, if_neg (by omega), if_pos rfl, if_neg (by omega), if_pos rfl]
  · rw [if_neg h1]
    by_cases h2 : p = k
    · subst h2; rw [if_pos rfl, if_neg (by omega), if_neg (by omega), if_pos (by omega)]
    · rw [if_neg h2]
      by_cases h3 : a ≤ p ∧ p < k
      · rw [if_pos h3, if_pos (by omega)]
      · rw [if_neg h3, if_neg h2, if_neg (by omega), if_neg h1]
/-- coin m is moved left to place k -/
def mvl (f : Nat → Coin) (m k : Nat) : Nat → Coin := fun p => if k < p ∧ p ≤ m then f (p - 1) else if p = k then f m else f p
theorem mvl_zero (f : Nat → Coin) (m : Nat) : mvl f m m = f := by
  funext p; unfold mvl; rw [if_neg (by omega)]; split
  · rename_i h; rw [h]
  · rfl
theorem mvl_succ (f : Nat → Coin) (m k : Nat) (h : k + 1 ≤ m) : swp (mvl f m (k+1)) (k+1) k = mvl f m k := by
  funext p; unfold swp upd mvl
  by_cases h1 : p = k
  · subst h1; rw [if_pos rfl, if_neg (by omega), if_pos rfl, if_neg (by omega), if_pos rfl]
  · rw [if_neg h1]
    by_cases h2 : p = k + 1
    · subst h2; rw [if_pos rfl, if_neg (by omega), if_neg (by omega), if_pos (by omega)]; congr 1
    · rw [if_neg h2]
      by_cases h3 : k + 1 < p ∧ p ≤ m
      · rw [if_pos h3, if_pos (by omega)]
      · rw [if_neg h3, if_neg h2, if_neg (by omega), if_neg h1]
theorem mvr_sorted {f : Nat → Coin} {a i b : Nat} (hi : a + 1 ≤ i) (hib : i ≤ b) (h1 : ∀ p, a + 1 ≤ p → p < i → (f p).w < (f a).w) (h2 : ∀ p, i ≤ p → p < b → (f a).w ≤ (f p).w) (hS : Srtd f (a+1) b) : Srtd (mvr f a (i - 1)) a b := by
  intro p q k1 k2 k3
  unfold mvr
  by_cases p1 : p < i - 1
  · rw [if_pos (by omega)]
    by_cases q1 : q < i - 1
    · rw [if_pos (by omega)]; exact hS _ _ (by omega) (by omega) (by omega)
    · rw [if_neg (by omega)]
      by_cases q2 : q = i - 1
      · rw [if_pos q2]; exact Int.le_of_lt (h1 _ (by omega) (by omega))
      · rw [if_neg q2]; exact hS _ _ (by omega) (by omega) (by omega)
  · rw [if_neg (by omega), if_neg (by omega : ¬ (a ≤ q ∧ q < i - 1))]
    by_cases p2 : p = i - 1
    · rw [if_pos p2]
      by_cases q2 : q = i - 1
      · rw [if_pos q2]; exact Int.le_refl _
      · rw [if_neg q2]; exact h2 _ (by omega) (by omega)
    · rw [if_neg p2, if_neg (by omega)]; exact hS _ _ (by omega) (by omega) (by omega)
theorem mvl_sorted {f : Nat → Coin} {a i m : Nat} (hi : a ≤ i) (him : i ≤ m) (h1 : ∀ p, a ≤ p → p < i → (f p).w ≤ (f m).w) (h2 : ∀ p, i ≤ p → p < m → (f m).w < (f p).w) (hS : Srtd f a m) : Srtd (mvl f m i) a (m+1) := by
  intro p q k1 k2 k3
  unfold mvl
  by_cases q1 : i < q
  · rw [if_pos (by omega : i < q ∧ q ≤ m)]
    by_cases p1 : i < p
    · rw [if_pos (by omega)]; exact hS _ _ (by omega) (by omega) (by omega)
    · rw [if_neg (by omega)]
      by_cases p2 : p = i
      · rw [if_pos p2]; exact Int.le_of_lt (h2 _ (by omega) (by omega))
      · rw [if_neg p2]; exact hS _ _ (by omega) (by omega) (by omega)
  · rw [if_neg (by omega : ¬ (i < q ∧ q ≤ m)), if_neg (by omega : ¬ (i < p ∧ p ≤ m))]
    by_cases q2 : q = i
    · rw [if_pos q2]
      by_cases p2 : p = i
      · rw [if_pos p2]; exact Int.le_refl _
      · rw [if_neg p2]; exact h1 _ (by omega) (by omega)
    · rw [if_neg q2, if_neg (by omega)]; exact hS _ _ (by omega) (by omega) (by omega)

theorem rot_triv (f : Nat → Coin) (s m e : Nat) (h : ¬ (s < m ∧ m < e)) (h1 : s ≤ m) (h2 : m ≤ e) : rot f s m e = f := by
  funext k; unfold rot
  by_cases h3 : s = m
  · subst h3
    by_cases h4 : s ≤ k ∧ k < s + (e - s)
    · rw [if_pos h4, Nat.sub_self, Nat.add_zero]
    · rw [if_neg h4, if_neg (by omega)]
  · obtain rfl : m = e := by omega
    rw [if_neg (by omega)]
    split
    · rw [Nat.sub_self, Nat.sub_zero]
    · rfl
/-- what the search for the place of the symmetric cut has found -/
structure Cut (f : Nat → Coin) (a m b mid s : Nat) : Prop where
  mid1 : mid = (a + b) / 2
  lo : (if mid < m then mid + m - b else a) ≤ s
  hi : s ≤ (if mid < m then mid else m)
  left : (if mid < m then mid + m - b else a) < s → (f (s - 1)).w ≤ (f (mid + m - s)).w
  right : s < (if mid < m then mid else m) → (f (mid + m - 1 - s)).w < (f s).w
theorem Cut.bounds {f : Nat → Coin} {a m b mid s : Nat} (h : Cut f a m b mid s) (h1 : a < m) (h2 : m < b) : a ≤ s ∧ s ≤ m ∧ s ≤ mid ∧ m ≤ mid + m - s ∧ mid ≤ mid + m - s ∧ mid + m - s ≤ b ∧ a < mid ∧ mid < b ∧ s + (mid + m - s - m) = mid := by
  have e := h.mid1
  have l := h.lo
  have r := h.hi
  split at l
  · rw [if_pos (by assumption)] at r; omega
  · rw [if_neg (by assumption)] at r; omega
theorem Cut.facts {f : Nat → Coin} {a m b mid s : Nat} (h : Cut f a m b mid s) (h1 : a < m) (h2 : m < b) (hL : Srtd f a m) (hR : Srtd f m b) :
    Srtd (rot f s m (mid + m - s)) a s ∧ Srtd (rot f s m (mid + m - s)) s mid ∧ Srtd (rot f s m (mid + m - s)) mid (mid + m - s) ∧ Srtd (rot f s m (mid + m - s)) (mid + m - s) b ∧
    ∀ p q, a ≤ p → p < mid → mid ≤ q → q < b → (rot f s m (mid + m - s) p).w ≤ (rot f s m (mid + m - s) q).w := by
  obtain ⟨b1, b2, b3, b4, b5, b6, b7, b8, b9⟩ := h.bounds h1 h2
  have r1 : ∀ k, k < s → rot f s m (mid + m - s) k = f k := fun k hk => by unfold rot; rw [if_neg (by omega), if_neg (by omega)]
  have r2 : ∀ k, s ≤ k → k < mid → rot f s m (mid + m - s) k = f (k + (m - s)) := fun k hk1 hk2 => by unfold rot; rw [if_pos (by omega)]
  have r3 : ∀ k, mid ≤ k → k < mid + m - s → rot f s m (mid + m - s) k = f (k - (mid + m - s - m)) := fun k hk1 hk2 => by unfold rot; rw [if_neg (by omega), if_pos (by omega)]
  have r4 : ∀ k, mid + m - s ≤ k → rot f s m (mid + m - s) k = f k := fun k hk => by unfold rot; rw [if_neg (by omega), if_neg (by omega)]
  refine ⟨fun p q k1 k2 k3 => ?_, fun p q k1 k2 k3 => ?_, fun p q k1 k2 k3 => ?_, fun p q k1 k2 k3 => ?_, fun p q k1 k2 k3 k4 => ?_⟩
  · rw [r1 p (by omega), r1 q (by omega)]; exact hL _ _ k1 k2 (by omega)
  · rw [r2 p k1 (by omega), r2 q (by omega) k3]; exact hR _ _ (by omega) (by omega) (by omega)
  · rw [r3 p k1 (by omega), r3 q (by omega) k3]; exact hL _ _ (by omega) (by omega) (by omega)
  · rw [r4 p k1, r4 q (by omega)]; exact hR _ _ (by omega) (by omega) (by omega)
  · have hl := h.left
    have hr := h.right
    by_cases hp : p < s
    · rw [r1 p hp]
      by_cases hq : q < mid + m - s
      · rw [r3 q k3 hq]; exact hL _ _ (by omega) (by omega) (by omega)
      · rw [r4 q (by omega)]
        have hlo : (if mid < m then mid + m - b else a) < s := by split <;> omega
        have x1 := hl hlo
        have x2 := hL p (s - 1) (by omega) (by omega) (by omega)
        have x3 := hR (mid + m - s) q (by omega) (by omega) (by omega)
        omega
    · rw [r2 p (by omega) k2]
      by_cases hq : q < mid + m - s
      · rw [r3 q k3 hq]
        have hhi : s < (if mid < m then mid else m) := by split <;> omega
        have x1 := hr hhi
        have x2 := hR (p + (m - s)) (mid + m - 1 - s) (by omega) (by omega) (by omega)
        have x3 := hL s (q - (mid + m - s - m)) (by omega) (by omega) (by omega)
        omega
      · rw [r4 q (by omega)]; exact hR _ _ (by omega) (by omega) (by omega)
/-- a rotation, where what goes left is lighter than what goes right -/
theorem Pm.rot {a b s m e : Nat} (f : Nat → Coin) (h1 : a ≤ s) (h2 : s ≤ m) (h3 : m ≤ e) (h4 : e ≤ b) (hx : ∀ p q, s ≤ p → p < m → m ≤ q → q < e → (f q).w < (f p).w) : Pm a b f (Srt.rot f s m e) := by
  obtain ⟨σ, hσ⟩ : ∃ σ : Nat → Nat, ∀ k, σ k = if s ≤ k ∧ k < s + (e - m) then k + (m - s) else if s + (e - m) ≤ k ∧ k < e then k - (e - m) else k := ⟨_, fun _ => rfl⟩
  obtain ⟨τ, hτ⟩ : ∃ τ : Nat → Nat, ∀ k, τ k = if s ≤ k ∧ k < m then k + (e - m) else if m ≤ k ∧ k < e then k - (m - s) else k := ⟨_, fun _ => rfl⟩
  have hf : ∀ k, Srt.rot f s m e k = f (σ k) := fun k => by
    rw [hσ]; unfold Srt.rot
    split
    · rfl
    · split <;> rfl
  refine ⟨σ, τ, fun k => ?_, fun k => ?_, fun k hk => ?_, hf, fun p q hpq he => ?_⟩
  · rw [hτ, hσ]; repeat' split
    all_goals omega
  · rw [hσ, hτ]; repeat' split
    all_goals omega
  · rw [hσ, if_neg (by omega), if_neg (by omega)]
  · rw [hf, hf] at he
    by_cases hc : (s ≤ p ∧ p < s + (e - m)) ∧ s + (e - m) ≤ q ∧ q < e
    · exfalso
      rw [hσ p, hσ q, if_pos hc.1, if_neg (by omega), if_pos hc.2] at he
      have := hx (q - (e - m)) (p + (m - s)) (by omega) (by omega) (by omega) (by omega)
      omega
    · rw [hσ p, hσ q]
      repeat' split
      all_goals omega
theorem Cut.pm {f : Nat → Coin} {a m b mid s : Nat} (h : Cut f a m b mid s) (h1 : a < m) (h2 : m < b) (hL : Srtd f a m) (hR : Srtd f m b) (hk : s < m ∧ s < mid) : Pm a b f (rot f s m (mid + m - s)) := by
  obtain ⟨b1, b2, b3, b4, b5, b6, b7, b8, b9⟩ := h.bounds h1 h2
  have hr := h.right (by split <;> omega)
  refine Pm.rot f (by omega) (by omega) (by omega) (by omega) (fun p q k1 k2 k3 k4 => ?_)
  have x1 := hL s p (by omega) k1 k2
  have x2 := hR q (mid + m - 1 - s) k3 (by omega) (by omega)
  omega
/-- two halves, each of them sorted anew -/
theorem halves_sorted {F f1 f2 : Nat → Coin} {a mid b : Nat} (h1 : a ≤ mid) (h2 : mid ≤ b) (p1 : Pm a mid F f1) (s1 : Srtd f1 a mid) (p2 : Pm mid b f1 f2) (s2 : Srtd f2 mid b)
    (hx : ∀ p q, a ≤ p → p < mid → mid ≤ q → q < b → (F p).w ≤ (F q).w) : Srtd f2 a b := by
  intro p q k1 k2 k3
  by_cases hq : q < mid
  · rw [p2.off (i := p) (by omega), p2.off (i := q) (by omega)]; exact s1 _ _ k1 k2 hq
  · by_cases hp : mid ≤ p
    · exact s2 _ _ hp k2 k3
    · rw [p2.off (i := p) (by omega)]
      obtain ⟨x, x1, x2, x3⟩ := p1.from (i := p) k1 (by omega)
      obtain ⟨y, y1, y2, y3⟩ := p2.from (i := q) (by omega) k3
      rw [x3, y3, p1.off (i := y) (by omega)]
      exact hx _ _ x1 x2 y1 y2
end Go.Proofs.YtmgbjgjlddifaaaGreat.Srt
