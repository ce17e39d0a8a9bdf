/-
  Walks: bits.Reader.
-/
import Derived.Test.YtmgbjgjlddifaaaGreatChecked
import Derived.Test.YtmgbjgjlddifaaaGreatZG1
set_option linter.unusedVariables false
set_option linter.unusedSimpArgs false
namespace Go.Proofs.YtmgbjgjlddifaaaGreat.Bits
open Go.RowKit K

theorem infoU8 : (Tryz.prog.info? 5).map (fun i => (i.zero, i.size, i.bytes)) = some (some (.int .u8 0), 1, 1) := by kernel_rfl

set_option maxHeartbeats 400000 in
theorem clone_any {A : Option Addr} {n c : Nat} {l : List Int} (w : World) (HA : SI w .u8 A n l) :
    Calls Tryz.prog 44 #[.slice A n c] w fun e w' => ∃ A' c', e = .returned (.slice A' n c') ∧ w'.ownsRow w.heap.size 5 1 (.slice A' n c') n (l.map (.int .u8)) ∧ Below w.heap.size w w' := by
  have hbig := HA.bigb
  have hlen := Lib.hid HA.len
  cases hA : A with
  | none =>
    subst hA
    have hn : n = 0 := by
      rcases Nat.eq_zero_or_pos n with h | h
      · exact h
      · obtain ⟨_, _, _, h, _⟩ := HA.cells h; cases h
    subst hn
    have hl0 : l = [] := List.eq_nil_of_length_eq_zero hlen.out
    subst hl0
    have h1 := fun w => Lib.run_eql_slice_nil (P := Tryz.prog) w 22 5 none 0 c 0 0 Tryz.underlying22
    go_enter Tryz.func44, Tryz.ntmps44
    go_wp2
    go_ret
    exact ⟨none, 0, rfl, World.ownsRow_nil _ _ _ _, Below.refl _ _⟩
  | some a =>
    subst hA
    have h1 := fun w => Lib.run_eql_slice_nil (P := Tryz.prog) w 22 5 (some a) n c 0 0 Tryz.underlying22
    go_enter Tryz.func44, Tryz.ntmps44
    go_wp2_with (at_builtin; refine wpList_append_sl _ rfl (.tmp 5) (.tmp 6) _ rfl w.heap.size 5 1 1 _ Tryz.underlying22 infoU8 rfl (by omega) (.slice (some ⟨w.heap.size, 0, none⟩) 0 0) 0 [] rfl ?c1 (some a) n c (l.map (.int .u8)) rfl ?c2 ?c3 (ones _ _) ?c4 ?c5 ?c6 ?_)
    case c1 => exact World.ownsRow_made w #[] 0 (Nat.le_refl _) (by simp [maxLen]) rfl
    case c2 => simp [hlen.out]
    case c3 => exact HA.sl.alloc _
    case c4 => unfold maxLen; omega
    case c5 => omega
    case c6 => simp
    intro v' w1 hown hg _
    obtain ⟨A', c', rfl⟩ := own_form hown
    have hb : Below w.heap.size w w1 := ((Below.refl w.heap.size w).alloc (Nat.le_refl _) _).grown hg (by simp) (fun k hk => by simp [Value.ownBlock] at hk; omega)
    go_wp2
    go_ret
    exact ⟨A', c', rfl, hown, hb⟩

theorem order_any (w : World) (up : Bool) : Calls Tryz.prog 36 #[.bool up] w fun e w' => e = .returned (.func (.func (if up then 64 else 65)) #[] #[]) ∧ w = w' := by
  cases up
  · go_enter Tryz.func36, Tryz.ntmps36
    go_wp2
    go_ret
    exact ⟨rfl, rfl⟩
  · go_enter Tryz.func36, Tryz.ntmps36
    go_wp2
    go_ret
    exact ⟨rfl, rfl⟩

/-- the place of bit i in its byte -/
def place (up : Bool) (i : Nat) : Nat := if up then 7 - i % 8 else i % 8
theorem high_any (w : World) (i : Nat) (hi : i ≤ 1125899906842624) : Calls Tryz.prog 64 #[.int .i64 i] w fun e w' => e = .returned (.int .u64 (place true i)) ∧ w = w' := by
  go_enter Tryz.func64, Tryz.ntmps64
  go_wp2
  go_ret
  exact ⟨ret1 (eint (by simp only [place, if_pos]; omega)), rfl⟩
theorem low_any (w : World) (i : Nat) (hi : i ≤ 1125899906842624) : Calls Tryz.prog 65 #[.int .i64 i] w fun e w' => e = .returned (.int .u64 (place false i)) ∧ w = w' := by
  go_enter Tryz.func65, Tryz.ntmps65
  go_wp2
  go_ret
  exact ⟨ret1 (eint (by simp [place])), rfl⟩
theorem place_any (w : World) (up : Bool) (i : Nat) (hi : i ≤ 1125899906842624) : Calls Tryz.prog (if up then 64 else 65) #[.int .i64 i] w fun e w' => e = .returned (.int .u64 (place up i)) ∧ w = w' := by
  cases up
  · exact low_any w i hi
  · exact high_any w i hi

def rdrF (A : Option Addr) (n c at_ : Nat) (up : Bool) : Nat → Value
  | 0 => .slice A n c
  | 1 => .int .i64 at_
  | 2 => .bool up
  | _ => .func (.func (if up then 64 else 65)) #[] #[]
/-- a reader at block p -/
structure Rdr (w : World) (p : Nat) (A : Option Addr) (c : Nat) (l : List Int) (at_ : Nat) (up : Bool) : Prop where
  row : w.rowIs p 136 4 (rdrF A l.length c at_ up)
  data : SI w .u8 A l.length l
  apart : ∀ b off s, A = some ⟨b, off, s⟩ → b ≠ p
  le : at_ ≤ 8 * l.length
  wf : ∀ x ∈ l, 0 ≤ x ∧ x < 256

theorem Rdr.keep {w w' : World} {p A c l at_ up} (h : Rdr w p A c l at_ up) (hp : w'.heap[p]? = w.heap[p]?) (hd : ∀ b off s, A = some ⟨b, off, s⟩ → w'.heap[b]? = w.heap[b]?) : Rdr w' p A c l at_ up :=
  ⟨h.row.of_block hp, ⟨h.data.len, h.data.sz, fun j u hu => by
    obtain ⟨b, off, rfl, hc⟩ := h.data.sl j u hu
    exact ⟨b, off, rfl, (World.cell?_of_block (a := ⟨b, off + j, none⟩) (hd b off none rfl)).trans hc⟩⟩, h.apart, h.le, h.wf⟩

def NewRPost (w : World) (l : List Int) (up : Bool) (e : Ending) (w' : World) : Prop :=
  ∃ p A' c', e = .returned (.pointer (some ⟨p, 0, none⟩)) ∧ w.heap.size ≤ p ∧ (∀ b off s, A' = some ⟨b, off, s⟩ → w.heap.size ≤ b) ∧ Rdr w' p A' c' l 0 up ∧ Below w.heap.size w w'
set_option maxHeartbeats 400000 in
theorem newReader_any {A : Option Addr} {n c : Nat} {l : List Int} (w : World) (HA : SI w .u8 A n l) (up : Bool) (hwf : ∀ x ∈ l, 0 ≤ x ∧ x < 256) :
    Calls Tryz.prog 48 #[.slice A n c, .bool up] w (NewRPost w l up) := by
  have Hwf := Lib.hid hwf
  have hbig := HA.bigb
  have hlen := Lib.hid HA.len
  clear hwf
  go_enter Tryz.func48, Tryz.ntmps48
  go_wp2_with fail
  refine (clone_any _ HA).mono ?_
  rintro e w1 ⟨A', c', rfl, hown, hb⟩
  go_wp2_with fail
  refine (order_any _ up).mono ?_
  rintro e w' ⟨rfl, rfl⟩
  generalize hf : (Fn.func (if up = true then 64 else 65)) = fn
  go_wp2
  go_ret
  have hr := World.rowIs_alloc w1 #[.slice A' n c', .int .i64 0, .bool up, .func fn #[] #[]] 136 (rdrF A' l.length c' 0 up) (fun i hi => by
    simp only [List.size_toArray, List.length_cons, List.length_nil] at hi
    rw [hlen.out]
    have : i = 0 ∨ i = 1 ∨ i = 2 ∨ i = 3 := by omega
    rcases this with rfl | rfl | rfl | rfl
    · rfl
    · rfl
    · rfl
    · simp [rdrF, hf])
  have hba : ∀ b off s, A' = some ⟨b, off, s⟩ → w.heap.size ≤ b ∧ b < w1.heap.size := fun b off s h => hown.lt b (by rw [h]; rfl)
  refine ⟨w1.heap.size, A', c', rfl, hb.size, fun b off s h => (hba b off s h).1, ⟨hr, ?_, ?_, by omega, Hwf.out⟩, hb.alloc hb.size _⟩
  · have := (SI.of_own hown (by show _ * 1 ≤ _; omega)).alloc (.cells #[.slice A' n c', .int .i64 0, .bool up, .func fn #[] #[]] 136)
    rwa [hlen.out]
  · intro b off s h
    have := (hba b off s h).2
    omega

set_option maxHeartbeats 400000 in
theorem left_any {p : Nat} {A : Option Addr} {c : Nat} {l : List Int} {at_ : Nat} {up : Bool} (w : World) (HR : Rdr w p A c l at_ up) :
    Calls Tryz.prog 97 #[.pointer (some ⟨p, 0, none⟩)] w fun e w' => e = .returned (.int .i64 (8 * l.length - at_ : Int)) ∧ ∃ k, w' = w.drewN k := by
  have hbig := HR.data.bigb
  have hle := HR.le
  have c0 := HR.row.cell (i := 0) (by omega)
  have c1 := HR.row.cell (i := 1) (by omega)
  simp only [rdrF] at c0 c1
  go_enter Tryz.func97, Tryz.ntmps97
  go_wp2
  go_quiet (fail)
  go_wp2
  go_ret
  exact ⟨rfl, _, rfl⟩

theorem Rdr.drewN {w : World} {p A c l at_ up} (h : Rdr w p A c l at_ up) (k : Nat) : Rdr (w.drewN k) p A c l at_ up := h.keep rfl (fun _ _ _ _ => rfl)
theorem Rdr.adv {w : World} {p A c l at_ up} (h : Rdr w p A c l at_ up) (hl : at_ < 8 * l.length) : Rdr (w.setCell ⟨p, 1, none⟩ (.int .i64 ((at_ : Int) + 1))) p A c l (at_ + 1) up :=
  have hs := fun b hb => Below.heap_setCell w ⟨p, 1, none⟩ (.int .i64 ((at_ : Int) + 1)) b hb
  ⟨(h.row.set 1 _).congr (fun i hi => by
    have : i = 0 ∨ i = 1 ∨ i = 2 ∨ i = 3 := by omega
    rcases this with rfl | rfl | rfl | rfl <;> rfl), ⟨h.data.len, h.data.sz, fun j u hu => by
    obtain ⟨b, off, rfl, hc⟩ := h.data.sl j u hu
    exact ⟨b, off, rfl, (World.cell?_of_block (a := ⟨b, off + j, none⟩) (hs b (h.apart b off none rfl))).trans hc⟩⟩, h.apart, by omega, h.wf⟩
def bitAt (l : List Int) (up : Bool) (i : Nat) : Int := l.getD (i / 8) 0 / 2 ^ place up i % 2
def takeV (l : List Int) (up : Bool) (at_ : Nat) : Nat → Int
  | 0 => 0
  | k+1 => if up then takeV l up at_ k * 2 + bitAt l up (at_ + k) else takeV l up at_ k + bitAt l up (at_ + k) * 2 ^ k
theorem bitAt_bd (l up i) : 0 ≤ bitAt l up i ∧ bitAt l up i ≤ 1 := by unfold bitAt; omega
theorem takeV_bd (l up at_ k) : 0 ≤ takeV l up at_ k ∧ takeV l up at_ k < 2 ^ k := by
  induction k with
  | zero => simp [takeV]
  | succ k ih =>
    have hb := bitAt_bd l up (at_ + k)
    rw [takeV]
    rw [Int.pow_succ]
    split
    · omega
    · have h01 : bitAt l up (at_ + k) = 0 ∨ bitAt l up (at_ + k) = 1 := by omega
      rcases h01 with h | h <;> rw [h] <;> omega

def TakePost (w : World) (p : Nat) (A : Option Addr) (c : Nat) (l : List Int) (at_ : Nat) (up : Bool) (n : Nat) (e : Ending) (w' : World) : Prop :=
  e = .returned (.tuple #[.int .u32 (takeV l up at_ n), .int .i64 0]) ∧ Rdr w' p A c l (at_ + n) up ∧ w.grownBy w' (some p)

theorem place_le (up : Bool) (i : Nat) : place up i ≤ 7 := by unfold place; split <;> omega
theorem takeV_up (l : List Int) (at_ k : Nat) (x : Int) (hk : k < 32) (hx : l[(at_ + k) / 8]? = some x) (h0 : 0 ≤ x) (h1 : x < 256) :
    bits .or .u32 (takeV l true at_ k * 2 % 4294967296) (bits .and .u32 (x / 2 ^ min (place true (at_ + k)) 8 % 4294967296) 1) = takeV l true at_ (k+1) := by
  have hb := takeV_bd l true at_ k
  have h2 := pow_le32 (k := k + 1) (by omega)
  rw [Int.pow_succ] at h2
  have hp := place_le true (at_ + k)
  rw [Nat.min_eq_left (by omega), u32_and1 _ (Int.ediv_nonneg h0 (Int.pow_nonneg (by omega)))]
  have hbit : bitAt l true (at_ + k) = x / 2 ^ place true (at_ + k) % 2 := by unfold bitAt; rw [getD_of hx]
  rw [← hbit]
  have hb1 := bitAt_bd l true (at_ + k)
  rw [u32_or_hi 1 _ _ (by omega) (by omega) (by omega) hb1.1 (by omega) (by omega)]
  rw [takeV, if_pos rfl]; omega
theorem takeV_lo (l : List Int) (at_ k : Nat) (x : Int) (hk : k < 32) (hx : l[(at_ + k) / 8]? = some x) (h0 : 0 ≤ x) (h1 : x < 256) :
    bits .or .u32 (takeV l false at_ k) (bits .and .u32 (x / 2 ^ min (place false (at_ + k)) 8 % 4294967296) 1 * 2 ^ k % 4294967296) = takeV l false at_ (k+1) := by
  have hb := takeV_bd l false at_ k
  have h2 := pow_le32 (k := k + 1) (by omega)
  rw [Int.pow_succ] at h2
  have hp := place_le false (at_ + k)
  rw [Nat.min_eq_left (by omega), u32_and1 _ (Int.ediv_nonneg h0 (Int.pow_nonneg (by omega)))]
  have hbit : bitAt l false (at_ + k) = x / 2 ^ place false (at_ + k) % 2 := by unfold bitAt; rw [getD_of hx]
  rw [← hbit]
  have hb1 := bitAt_bd l false (at_ + k)
  rw [takeV]
  simp only [Bool.false_eq_true, if_false]
  rcases (by omega : bitAt l false (at_ + k) = 0 ∨ bitAt l false (at_ + k) = 1) with h | h
  · rw [h, Int.zero_mul]
    rw [u32_or_lo k _ _ (by decide) (by decide) (by simp) hb.1 hb.2 (by omega)]; rfl
  · rw [h, Int.one_mul, Int.emod_eq_of_lt (by omega) (by omega)]
    rw [u32_or_lo k _ _ (by omega) (by omega) (Int.emod_self) hb.1 hb.2 (by omega)]
theorem grown_set1 {w wr : World} {p : Nat} (h : w.grownBy wr (some p)) (k : Nat) (v : Value) : w.grownBy ((wr.drewN k).setCell ⟨p, 1, none⟩ v) (some p) :=
  ⟨h.os, h.tape, h.output, by simp [World.setCell]; exact h.size, fun i hi hne => (Below.heap_setCell (wr.drewN k) ⟨p, 1, none⟩ v i (fun e => hne (by rw [e]))).trans (h.block i hi hne)⟩

set_option maxHeartbeats 1000000 in
theorem take_up {p : Nat} {A : Option Addr} {c : Nat} {l : List Int} {at_ : Nat} (w : World) (HR : Rdr w p A c l at_ true) (n : Nat) (hn : n ≤ 32) (hl : at_ + n ≤ 8 * l.length) :
    Calls Tryz.prog 76 #[.pointer (some ⟨p, 0, none⟩), .int .i64 n] w (TakePost w p A c l at_ true n) := by
  have hbig := HR.data.bigb
  go_enter Tryz.func76, Tryz.ntmps76
  go_wp2_with (go_at_call 97; refine (left_any _ HR).mono ?_; rintro e w' ⟨rfl, k0, rfl⟩)
  go_loopw [6, 7, 8, 25] (fun v _ _ i wr => ∃ k : Nat, k ≤ n ∧ i = .int .i64 k ∧ v = .int .u32 (takeV l true at_ k) ∧ Rdr wr p A c l (at_ + k) true ∧ w.grownBy wr (some p)) (fun _ _ _ i _ => n - (intOf i).toNat)
  case atStart => exact ⟨0, by omega, rfl, rfl, HR.drewN _, ⟨rfl, rfl, rfl, Nat.le_refl _, fun _ _ _ => rfl⟩⟩
  case round =>
    obtain ⟨k, hk, rfl, rfl, hR, hg⟩ := hrel
    by_cases hlt : k < n
    · have hlt' : (k : Int) < n := by omega
      have hle := hR.le
      have c0 := hR.row.cell (i := 0) (by omega)
      have c1 := hR.row.cell (i := 1) (by omega)
      have c2 := hR.row.cell (i := 2) (by omega)
      have c3 := hR.row.cell (i := 3) (by omega)
      have f1 := hR.row.frozen 1
      simp only [rdrF, if_pos, Bool.false_eq_true, if_false] at c0 c1 c2 c3
      obtain ⟨b, off, x, hAe, hc, hx, hbl⟩ := hR.data.cells (i := (at_ + k) / 8) (by omega)
      subst hAe
      have hx01 := hR.wf x (List.mem_of_getElem? hx.out)
      have htv := takeV_bd l true at_ k
      have hv := Lib.hid (takeV_up l at_ k x (by omega) hx.out hx01.1 hx01.2)
      go_wp2
      go_quiet ((go_at_call 64; exact Calls.quiet_of_same ((high_any _ (at_ + k) (by omega)).mono fun _ _ h => ⟨h.1, h.2.symm⟩)))
      go_wp2
      go_roundw
      case rel => exact ⟨k + 1, by omega, by go_num, eint hv.out, (hR.drewN _).adv (by omega), grown_set1 hg _ _⟩
      case measure => simp [intOf]; omega
    · obtain rfl : k = n := by omega
      go_wp2
      go_ret2
      exact ⟨rfl, hR, hg⟩

set_option maxHeartbeats 1000000 in
theorem take_lo {p : Nat} {A : Option Addr} {c : Nat} {l : List Int} {at_ : Nat} (w : World) (HR : Rdr w p A c l at_ false) (n : Nat) (hn : n ≤ 32) (hl : at_ + n ≤ 8 * l.length) :
    Calls Tryz.prog 76 #[.pointer (some ⟨p, 0, none⟩), .int .i64 n] w (TakePost w p A c l at_ false n) := by
  have hbig := HR.data.bigb
  go_enter Tryz.func76, Tryz.ntmps76
  go_wp2_with (go_at_call 97; refine (left_any _ HR).mono ?_; rintro e w' ⟨rfl, k0, rfl⟩)
  go_loopw [6, 7, 8, 25] (fun v _ _ i wr => ∃ k : Nat, k ≤ n ∧ i = .int .i64 k ∧ v = .int .u32 (takeV l false at_ k) ∧ Rdr wr p A c l (at_ + k) false ∧ w.grownBy wr (some p)) (fun _ _ _ i _ => n - (intOf i).toNat)
  case atStart => exact ⟨0, by omega, rfl, rfl, HR.drewN _, ⟨rfl, rfl, rfl, Nat.le_refl _, fun _ _ _ => rfl⟩⟩
  case round =>
    obtain ⟨k, hk, rfl, rfl, hR, hg⟩ := hrel
    by_cases hlt : k < n
    · have hlt' : (k : Int) < n := by omega
      have hle := hR.le
      have c0 := hR.row.cell (i := 0) (by omega)
      have c1 := hR.row.cell (i := 1) (by omega)
      have c2 := hR.row.cell (i := 2) (by omega)
      have c3 := hR.row.cell (i := 3) (by omega)
      have f1 := hR.row.frozen 1
      simp only [rdrF, if_pos, Bool.false_eq_true, if_false] at c0 c1 c2 c3
      obtain ⟨b, off, x, hAe, hc, hx, hbl⟩ := hR.data.cells (i := (at_ + k) / 8) (by omega)
      subst hAe
      have hx01 := hR.wf x (List.mem_of_getElem? hx.out)
      have htv := takeV_bd l false at_ k
      have hv := Lib.hid (takeV_lo l at_ k x (by omega) hx.out hx01.1 hx01.2)
      go_wp2
      go_quiet ((go_at_call 65; exact Calls.quiet_of_same ((low_any _ (at_ + k) (by omega)).mono fun _ _ h => ⟨h.1, h.2.symm⟩)))
      go_wp2
      go_roundw
      case rel => exact ⟨k + 1, by omega, by go_num, eint hv.out, (hR.drewN _).adv (by omega), grown_set1 hg _ _⟩
      case measure => simp [intOf]; omega
    · obtain rfl : k = n := by omega
      go_wp2
      go_ret2
      exact ⟨rfl, hR, hg⟩

theorem take_any {p : Nat} {A : Option Addr} {c : Nat} {l : List Int} {at_ : Nat} {up : Bool} (w : World) (HR : Rdr w p A c l at_ up) (n : Nat) (hn : n ≤ 32) (hl : at_ + n ≤ 8 * l.length) :
    Calls Tryz.prog 76 #[.pointer (some ⟨p, 0, none⟩), .int .i64 n] w (TakePost w p A c l at_ up n) := by
  cases up
  · exact take_lo w HR n hn hl
  · exact take_up w HR n hn hl

set_option maxHeartbeats 1000000 in
theorem take_end {p : Nat} {A : Option Addr} {c : Nat} {l : List Int} {at_ : Nat} {up : Bool} (w : World) (HR : Rdr w p A c l at_ up) (n : Nat) (hn : n ≤ 32) (hl : 8 * l.length < at_ + n) :
    Calls Tryz.prog 76 #[.pointer (some ⟨p, 0, none⟩), .int .i64 n] w fun e w' => e = .returned (.tuple #[.int .u32 0, .int .i64 5]) ∧ ∃ k, w' = w.drewN k := by
  have hbig := HR.data.bigb
  have hle := HR.le
  go_enter Tryz.func76, Tryz.ntmps76
  go_wp2_with (go_at_call 97; refine (left_any _ HR).mono ?_; rintro e w' ⟨rfl, k0, rfl⟩)
  go_ret2
  exact ⟨rfl, _, rfl⟩

set_option maxHeartbeats 400000 in
theorem place_of {p : Nat} {A : Option Addr} {c : Nat} {l : List Int} {at_ : Nat} {up : Bool} (w : World) (HR : Rdr w p A c l at_ up) :
    Calls Tryz.prog 55 #[.pointer (some ⟨p, 0, none⟩)] w fun e w' => e = .returned (.int .i64 at_) ∧ w = w' := by
  have c1 := HR.row.cell (i := 1) (by omega)
  simp only [rdrF] at c1
  go_enter Tryz.func55, Tryz.ntmps55
  go_wp2
  go_ret
  exact ⟨rfl, rfl⟩
end Go.Proofs.YtmgbjgjlddifaaaGreat.Bits
