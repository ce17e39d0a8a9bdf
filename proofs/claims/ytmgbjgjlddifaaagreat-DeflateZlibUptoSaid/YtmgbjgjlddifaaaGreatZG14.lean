/-
  Texts of this claim, joined by program (DefP, DefB, DefT). Views: a slice of pieces; what a writer leaves alone.
-/
import Derived.Test.YtmgbjgjlddifaaaGreatZG13
import Derived.Test.YtmgbjgjlddifaaaGreatZG9
import Derived.Test.YtmgbjgjlddifaaaGreatZG7
set_option linter.unusedVariables false
set_option linter.unusedSimpArgs false
namespace Go.Proofs.YtmgbjgjlddifaaaGreat.Def
open Go.RowKit K Bits Wrt

/-- a piece's cells -/
def pcV (p : Pc) : List Value := [.int .u8 (p.b : Int), .int .i64 (p.n : Int), .int .i64 (p.back : Int)]
theorem pcs_len (ps : List Pc) : (ps.flatMap pcV).length = ps.length * 3 := by
  induction ps with
  | nil => rfl
  | cons p ps ih => rw [List.flatMap_cons, List.length_append, ih, List.length_cons]; show 3 + _ = _; omega
theorem pcs_get {ps : List Pc} {i r : Nat} {p : Pc} (h : ps[i]? = some p) (hr : r < 3) : (ps.flatMap pcV)[i * 3 + r]? = (pcV p)[r]? := by
  induction ps generalizing i with
  | nil => simp at h
  | cons q ps ih =>
    rw [List.flatMap_cons]
    have hl : (pcV q).length = 3 := rfl
    cases i with
    | zero =>
      rw [List.getElem?_cons_zero] at h
      injection h with h
      subst h
      rw [List.getElem?_append_left (by omega), show 0 * 3 + r = r by omega]
    | succ i =>
      rw [List.getElem?_cons_succ] at h
      rw [List.getElem?_append_right (by omega), hl, show (i + 1) * 3 + r - 3 = i * 3 + r by omega]
      exact ih h
structure SP (w : World) (A : Option Addr) (n : Nat) (ps : List Pc) : Prop where
  len : ps.length = n
  sz : n ≤ 2000000
  sl : Sl w A (ps.flatMap pcV)
theorem SP.cells {w : World} {A : Option Addr} {n : Nat} {ps : List Pc} (h : SP w A n ps) {i : Nat} (hi : i < n) :
    ∃ b off p, A = some ⟨b, off, none⟩ ∧ w.cell? ⟨b, off + i * 3, none⟩ = some (.int .u8 (p.b : Int)) ∧ w.cell? ⟨b, off + i * 3 + 1, none⟩ = some (.int .i64 (p.n : Int)) ∧
      w.cell? ⟨b, off + i * 3 + 2, none⟩ = some (.int .i64 (p.back : Int)) ∧ Hid (ps[i]? = some p) ∧ b < w.heap.size := by
  have hi' : i < ps.length := by rw [h.len]; exact hi
  have hx : ps[i]? = some ps[i] := List.getElem?_eq_getElem hi'
  have g : ∀ r, r < 3 → (ps.flatMap pcV)[i * 3 + r]? = (pcV ps[i])[r]? := fun r hr => pcs_get hx hr
  obtain ⟨b, off, e, hc⟩ := h.sl (i * 3 + 0) _ (g 0 (by omega))
  obtain ⟨b1, off1, e1, hc1⟩ := h.sl (i * 3 + 1) _ (g 1 (by omega))
  obtain ⟨b2, off2, e2, hc2⟩ := h.sl (i * 3 + 2) _ (g 2 (by omega))
  rw [e] at e1 e2
  injection e1 with e1; injection e1 with q1 q2
  injection e2 with e2; injection e2 with q3 q4
  subst q1 q2 q3 q4
  exact ⟨b, off, _, e, hc, hc1, hc2, hx, World.block_lt_of_cell? w _ hc⟩
/-- a slice lies in no block of S -/
def Off (A : Option Addr) (S : Nat → Prop) : Prop := ∀ a, A = some a → ¬ S a.block
theorem Sl.chg {w w1 : World} {A : Option Addr} {xs : List Value} {S : Nat → Prop} (h : Sl w A xs) (hc : Chg w w1 S) (ho : Off A S) : Sl w1 A xs := fun j u hu => by
  obtain ⟨b, off, rfl, hcell⟩ := h j u hu
  exact ⟨b, off, rfl, hc.cell hcell (ho ⟨b, off, none⟩ rfl)⟩
theorem SI.chg {w w1 : World} {k : IntKind} {A : Option Addr} {n : Nat} {l : List Int} {S : Nat → Prop} (h : SI w k A n l) (hc : Chg w w1 S) (ho : Off A S) : SI w1 k A n l := ⟨h.len, h.sz, Sl.chg h.sl hc ho⟩
theorem SP.chg {w w1 : World} {A : Option Addr} {n : Nat} {ps : List Pc} {S : Nat → Prop} (h : SP w A n ps) (hc : Chg w w1 S) (ho : Off A S) : SP w1 A n ps := ⟨h.len, h.sz, Sl.chg h.sl hc ho⟩
theorem SP.below {w w1 : World} {A : Option Addr} {n B : Nat} {ps : List Pc} (h : SP w A n ps) (hb : Below B w w1) (hB : w.heap.size ≤ B) : SP w1 A n ps := ⟨h.len, h.sz, h.sl.below hb hB⟩
end Go.Proofs.YtmgbjgjlddifaaaGreat.Def
set_option linter.unusedVariables false
set_option linter.unusedSimpArgs false
namespace Go.Proofs.YtmgbjgjlddifaaaGreat.Wrt
open Go.RowKit K Bits

theorem Chg.one (W : World) (q j : Nat) (v : Value) {S : Nat → Prop} (hS : S q) : Chg W (W.setCell ⟨q, j, none⟩ v) S :=
  ⟨rfl, rfl, rfl, by simp [World.setCell], fun b hb hn => (Below.heap_setCell W ⟨q, j, none⟩ v b (fun e => hn (by rw [show b = q by simpa using e]; exact hS)))⟩
theorem Wt.align {w : World} {q base : Nat} {A : Option Addr} {c : Nat} {B bs : List Int} {up : Bool} (h : Wt w q base A c B bs up) (hbig : bs.length + 8 ≤ 281474976710656) :
    Wt (w.setCell ⟨q, 1, none⟩ (.int .i64 (8 * (B.length : Int)))) q base A c B (bs ++ List.replicate (8 * B.length - bs.length) 0) up := by
  have hle := h.pk.q.le
  have hlt := h.pk.lt
  have e : (bs ++ List.replicate (8 * B.length - bs.length) 0).length = 8 * B.length := by rw [List.length_append, List.length_replicate]; omega
  have ha := h.apart
  refine ⟨?_, ?_, ha, by simp [World.setCell]; exact h.hi, h.pk.align, by rw [e]; omega⟩
  · rw [e]
    refine (h.row.set 1 _).congr (fun j hj => ?_)
    by_cases h0 : j = 1
    · subst h0; rw [if_pos rfl]; simp [wtF]
    · rw [if_neg h0]
      have : j = 0 ∨ j = 2 ∨ j = 3 := by omega
      rcases this with rfl | rfl | rfl <;> rfl
  · refine h.own.kept (grown_set (World.grownBy.refl _ _) _ _) ?_
    by_cases e : (Value.slice A B.length c).ownBlock = none
    · exact .inl e
    · exact .inr (fun e2 => by have := (h.own.lt _ e2).1; omega)
set_option maxRecDepth 20000 in
theorem align_any {q base : Nat} {A : Option Addr} {bs : List Int} {up : Bool} (w0 w : World) (HP : Ps w0 w q base A bs up) (hbig : bs.length + 8 ≤ 281474976710656) :
    Calls Tryz.prog 34 #[.pointer (some ⟨q, 0, none⟩)] w fun e w' => e = .returned (.tuple #[]) ∧ ∃ k, k < 8 ∧ (bs.length + k) % 8 = 0 ∧ Ps w0 w' q base A (bs ++ List.replicate k 0) up := by
  obtain ⟨⟨A1, c1, B, hW, ho⟩, hC⟩ := HP
  have hle := hW.pk.q.le
  have hlt := hW.pk.lt
  have hlb := hW.len_le
  have k0 := hW.row.cell (i := 0) (by omega)
  have k1 := hW.row.cell (i := 1) (by omega)
  have g1 := hW.row.frozen 1
  simp only [wtF] at k0 k1
  have HW2 := Lib.hid (hW.align hbig)
  have HPs := Lib.hid (Ps.step hC ho (hW.align hbig) (Chg.one w q 1 _ (.inl rfl)) (.inl rfl))
  clear hW ho hC
  go_enter Tryz.func34, Tryz.ntmps34
  go_wp2
  go_end0
  exact ⟨rfl, 8 * B.length - bs.length, by omega, by omega, HPs.out⟩
end Go.Proofs.YtmgbjgjlddifaaaGreat.Wrt
set_option linter.unusedVariables false
set_option linter.unusedSimpArgs false
namespace Go.Proofs.YtmgbjgjlddifaaaGreat.Def
open Go.RowKit K Bits Wrt

/-- where a slice begins that was cut at m -/
def shA (A : Option Addr) (m c : Nat) : Option Addr := if c = m then A else A.map (fun x => x.add m)
theorem SI.cut8 {w : World} {A : Option Addr} {n c m : Nat} {l : List Int} (h : SI w .u8 A n l) (hc : n ≤ c) (hm : m ≤ n) : SI w .u8 (shA A m c) (n - m) (l.drop m) := by
  have hl := h.len
  refine ⟨by rw [List.length_drop, hl], Nat.le_trans (Nat.mul_le_mul_right _ (Nat.sub_le _ _)) h.sz, fun j u hu => ?_⟩
  have hu' : (l.map (Value.int .u8))[m + j]? = some u := by rw [← hu, List.map_drop, List.getElem?_drop]
  obtain ⟨b, off, rfl, hcell⟩ := h.sl (m + j) u hu'
  have hlt : m + j < l.length := by
    have := List.getElem?_eq_some_iff.1 hu'
    obtain ⟨h1, -⟩ := this
    simpa using h1
  unfold shA
  rw [if_neg (by omega)]
  refine ⟨b, off + m, by simp [Addr.add], ?_⟩
  rw [show off + m + j = off + (m + j) by omega]
  exact hcell
theorem xor16 (n : Nat) (h : n ≤ 65535) : bits .xor .u32 (n : Int) 65535 = ((65535 - n : Nat) : Int) := by
  have e : (n ^^^ 65535) = 65535 - n := by
    apply Nat.eq_of_testBit_eq
    intro i
    have h1 : (65535 - n : Nat) = 2 ^ 16 - (n + 1) := by omega
    rw [h1, Nat.testBit_two_pow_sub_succ (by omega), Nat.testBit_xor, show (65535 : Nat) = 2 ^ 16 - 1 by rfl, Nat.testBit_two_pow_sub_one]
    by_cases hi : i < 16
    · simp [hi]
    · have : n.testBit i = false := Nat.testBit_lt_two_pow (Nat.lt_of_lt_of_le (by omega : n < 2 ^ 16) (Nat.pow_le_pow_right (by omega) (by omega)))
      simp [hi, this]
  have w32 : ∀ m : Nat, m < 2 ^ 32 → IntKind.u32.wrap (m : Int) = m := fun m hm => by rw [IntKind.wrap_u32]; omega
  show IntKind.u32.wrap ((BitVec.ofInt 32 (n : Int) ^^^ BitVec.ofInt 32 ((65535 : Nat) : Int)).toNat : Int) = _
  rw [BitVec.toNat_xor, BitVec.ofInt_natCast, BitVec.ofInt_natCast, BitVec.toNat_ofNat, BitVec.toNat_ofNat, Nat.mod_eq_of_lt (by omega), Nat.mod_eq_of_lt (by omega), e]
  exact w32 _ (by omega)
theorem own_mono {w : World} {base base' e sz n : Nat} {v : Value} {xs : List Value} (h : w.ownsRow base e sz v n xs) (hb : base' ≤ base) : w.ownsRow base' e sz v n xs := by
  obtain ⟨hl, h | ⟨g, cap, cur, h1, h2, h3⟩⟩ := h
  · exact ⟨hl, .inl h⟩
  · exact ⟨hl, .inr ⟨g, cap, cur, h1, Nat.le_trans hb h2, h3⟩⟩
theorem lastBits {x : Int} (h : x = 0 ∨ x = 1) : putV false x 3 ++ List.replicate 5 0 = byteBits x := by
  rcases h with rfl | rfl <;> decide
theorem putPs {q base : Nat} {A : Option Addr} {bs : List Int} {up : Bool} {v : Int} {n : Nat} (w0 w : World) (HP : Ps w0 w q base A bs up) (v0 : 0 ≤ v) (v1 : v < 4294967296) (hn : n ≤ 32) (hbig : bs.length + n ≤ 281474976710656) :
    Calls Tryz.prog 17 #[.pointer (some ⟨q, 0, none⟩), .int .u32 v, .int .i64 n] w fun e w' => e = .returned (.int .i64 0) ∧ Ps w0 w' q base A (bs ++ putV up v n) up := by
  obtain ⟨⟨A1, c1, B, hW, ho⟩, hC⟩ := HP
  refine (put_any _ hW v0 v1 hn hbig).mono ?_
  rintro e w2 ⟨rfl, A2, c2, B2, hW2, hC2, hO2⟩
  exact ⟨rfl, Ps.step hC ho hW2 hC2 hO2⟩
theorem Ps.belowN {w w1 wr : World} {bs : List Int} {up : Bool} (hb : Below w.heap.size w w1) (h : Ps w1 wr w.heap.size (w.heap.size + 1) none bs up) : Below w.heap.size w wr :=
  hb.trans (h.chg.below hb.size (fun i h => by rcases h with h | h; exact Nat.le_of_eq h.symm; cases h))
def sfOf : Value → Nat
  | .bool true => 1
  | _ => 0
def lenOf : Value → Nat
  | .slice _ n _ => n
  | _ => 0
theorem chunk_wf {x : Int} {d : List Int} (hx : x = 0 ∨ x = 1) (hd : d.length ≤ 65535) (h : ∀ y ∈ d, 0 ≤ y ∧ y < 256) : ∀ y ∈ chunk x d, 0 ≤ y ∧ y < 256 := by
  intro y hy
  unfold chunk at hy
  simp only [List.cons_append, List.nil_append, List.mem_cons] at hy
  rcases hy with rfl | rfl | rfl | rfl | rfl | hy
  · omega
  · omega
  · omega
  · omega
  · omega
  · exact h y hy
theorem storedF_wf : ∀ (f : Nat) (b : List Int), (∀ x ∈ b, 0 ≤ x ∧ x < 256) → ∀ x ∈ storedF f b, 0 ≤ x ∧ x < 256
  | 0, b, _, x, hx => by simp [storedF] at hx
  | f+1, b, h, x, hx => by
    rw [storedF] at hx
    by_cases hb : b.length ≤ 65535
    · rw [if_pos hb] at hx
      exact chunk_wf (.inr rfl) hb h x hx
    · rw [if_neg hb] at hx
      rcases List.mem_append.1 hx with hx | hx
      · exact chunk_wf (.inl rfl) (by rw [List.length_take]; omega) (fun y hy => h y (List.mem_of_mem_take hy)) x hx
      · exact storedF_wf f _ (fun y hy => h y (List.mem_of_mem_drop hy)) x hx
theorem sto_last {pre rest P5 S : List Int} {n f : Nat} (hl : rest.length = n) (h6 : n ≤ 65535) (hq : P5 = pre ++ [1, (n : Int) % 256, (n : Int) / 256, (65535 - (n : Int)) % 256, (65535 - (n : Int)) / 256]) (hp : pre ++ storedF (f + 1) rest = S) : P5 ++ rest.take n = S := by
  rw [← hp, hq, storedF, if_pos (by omega), List.take_of_length_le (by omega), List.append_assoc]
  unfold chunk
  rw [hl]
theorem sto_more {pre rest P5 S : List Int} {f : Nat} (h6 : 65535 < rest.length) (hf : rest.length ≤ 65535 * (f + 1)) (hq : P5 = pre ++ [0, 65535 % 256, 65535 / 256, (65535 - 65535) % 256, (65535 - 65535) / 256]) (hp : pre ++ storedF (f + 1) rest = S) :
    ∃ f', (rest.drop 65535).length ≤ 65535 * (f' + 1) ∧ (P5 ++ rest.take 65535) ++ storedF (f' + 1) (rest.drop 65535) = S := by
  obtain ⟨f', rfl⟩ : ∃ f', f = f' + 1 := ⟨f - 1, by omega⟩
  refine ⟨f', by rw [List.length_drop]; omega, ?_⟩
  have e : storedF (f' + 1 + 1) rest = chunk 0 (rest.take 65535) ++ storedF (f' + 1) (rest.drop 65535) := by rw [storedF, if_neg (by omega)]
  rw [← hp, hq, e]
  have hl : (rest.take 65535).length = 65535 := by rw [List.length_take]; omega
  unfold chunk
  rw [hl]
  simp
structure Sto (w w1 wr : World) (q : Nat) (b0 : List Int) (sb sf : Value) : Prop where
  ex : ∃ (rest pre : List Int) (A : Option Addr) (n c : Nat) (fs : Bool), sb = .slice A n c ∧ sf = .bool fs ∧ n ≤ c ∧ SI w .u8 A n rest ∧ (∀ x ∈ rest, x ∈ b0) ∧ Ps w1 wr q (q + 1) none (bitsOf pre) false ∧
    (((fs = true ∨ 0 < n) ∧ ∃ f, rest.length ≤ 65535 * (f + 1) ∧ pre ++ storedF (f + 1) rest = storedB b0) ∨ (fs = false ∧ n = 0 ∧ pre = storedB b0))
set_option maxRecDepth 20000 in
set_option maxHeartbeats 4000000 in
theorem stored_any {A : Option Addr} {n c : Nat} {b : List Int} (w : World) (HA : SI w .u8 A n b) (hc : n ≤ c) (hn : n ≤ 2000000) (hwf : ∀ x ∈ b, 0 ≤ x ∧ x < 256) :
    Calls Tryz.prog 14 #[.slice A n c] w (WBytesPost w (storedB b)) := by
  have HA2 := Lib.hid HA
  clear HA
  go_enter Tryz.func14, Tryz.ntmps14
  go_wp2_with fail
  refine (newWriter_any _ _).mono ?_
  rintro e w1 ⟨rfl, hW1, hB1⟩
  have HS : Hid (Sto w w1 w1 w.heap.size b (.slice A n c) (.bool true)) := by
    refine ⟨b, [], A, n, c, true, rfl, rfl, hc, HA2.out, fun x h => h, ⟨⟨none, 0, [], hW1, .inl rfl⟩, Chg.refl _ _⟩, .inl ⟨.inl rfl, b.length / 65535, by omega, rfl⟩⟩
  have HB1 := Lib.hid hB1
  clear hW1 hB1
  go_wp2
  go_loopw [0, 4, 5, 6, 8] (fun sb sf _ _ _ wr => Sto w w1 wr w.heap.size b sb sf) (fun sb sf _ _ _ _ => 2 * lenOf sb + sfOf sf)
  case atStart => exact HS.out
  case round =>
    clear HS
    obtain ⟨rest, pre, A', n', c', fs, rfl, rfl, hc', hSI, hmem, hPs, hcase⟩ := hrel
    rcases hcase with ⟨hgo, f, hf, hpre⟩ | ⟨rfl, rfl, hpre⟩
    · have HP := Lib.hid hPs
      have HMEM0 := Lib.hid hmem
      clear hmem
      have HSI := Lib.hid hSI
      have HPRE := Lib.hid hpre
      have hlr := hSI.len
      have hll := storedF_len (b.length / 65535 + 1) b (by omega) (by omega)
      have hlb := HA2.out.len
      have hpl : pre.length + rest.length < 4000000 := by
        have e1 := congrArg List.length hpre
        rw [List.length_append] at e1
        have e2 := (storedF_len (f + 1) rest hf (by omega)).2
        have e3 : (storedB b).length = (storedF (b.length / 65535 + 1) b).length := rfl
        omega
      clear hPs hSI hpre hll
      by_cases hn6 : n' ≤ 65535
      · cases fs
        · have hn1 : 0 < n' := by rcases hgo with h | h; cases h; exact h
          have d1 : decide (0 < (n' : Int)) = true := decide_eq_true (by omega)
          go_wp2_with fail
          refine (putPs (n := 3) _ _ HP.out (by omega) (by omega) (by omega) (by rw [bitsOf_len]; omega)).mono ?_
          rintro e w2 ⟨rfl, hP2⟩
          have HP2 := Lib.hid hP2
          clear hP2 HP
          go_wp2_with fail
          refine (align_any _ _ HP2.out (by rw [List.length_append, putV_len, bitsOf_len]; omega)).mono ?_
          rintro e w3 ⟨rfl, k, hk, hk8, hP3⟩
          obtain rfl : k = 5 := by rw [List.length_append, putV_len, bitsOf_len] at hk8; omega
          have HP3 : Hid (Ps w1 w3 w.heap.size (w.heap.size + 1) none (bitsOf (pre ++ [1])) false) := by
            show Ps _ _ _ _ _ _ _
            rw [List.append_assoc, lastBits (by omega)] at hP3
            rw [bitsOf_append]; simpa [bitsOf] using hP3
          clear hP3 HP2 hk8 hk
          go_wp2_with fail
          refine (putPs (n := 16) _ _ HP3.out (by omega) (by omega) (by omega) (by rw [bitsOf_len, List.length_append]; simp; omega)).mono ?_
          rintro e w4 ⟨rfl, hP4⟩
          have HP4 : Hid (Ps w1 w4 w.heap.size (w.heap.size + 1) none (bitsOf (pre ++ [1, (n' : Int) % 256, (n' : Int) / 256])) false) := by
            show Ps _ _ _ _ _ _ _
            rw [put16 _ (by omega) (by omega), ← bitsOf_append, List.append_assoc] at hP4
            exact hP4
          clear hP4 HP3
          have hx : bits .xor .u32 (n' : Int) 65535 = ((65535 - n' : Nat) : Int) := xor16 n' (by omega)
          go_wp2_with fail
          refine (putPs (n := 16) _ _ HP4.out (by omega) (by omega) (by omega) (by rw [bitsOf_len, List.length_append]; simp; omega)).mono ?_
          rintro e w5 ⟨rfl, hP5⟩
          obtain ⟨P5, hq5⟩ : ∃ P5, P5 = pre ++ [1, (n' : Int) % 256, (n' : Int) / 256, (65535 - (n' : Int)) % 256, (65535 - (n' : Int)) / 256] := ⟨_, rfl⟩
          have HP5 : Hid (Ps w1 w5 w.heap.size (w.heap.size + 1) none (bitsOf (P5 ++ rest.take 0)) false) := by
            show Ps _ _ _ _ _ _ _
            rw [put16 _ (by omega) (by omega), ← bitsOf_append, List.append_assoc] at hP5
            rw [hq5, List.take_zero, List.append_nil]
            have e : (((n' : Nat)) : Int) = (n' : Int) := rfl
            have e2 : ((65535 - n' : Nat) : Int) = 65535 - (n' : Int) := by omega
            first | exact hP5 | (rw [e2] at hP5; exact hP5)
          have HMEM : Hid (∀ x ∈ rest, x ∈ b) := HMEM0
          have hl5 : P5.length = pre.length + 5 := by rw [hq5]; simp
          have HQ5 := Lib.hid hq5
          clear hP5 HP4 hq5 hx
          go_wp2_with fail
          go_loopw [8, 41] (fun _ si wx => ∃ k : Nat, k ≤ n' ∧ si = .int .i64 k ∧ Ps w1 wx w.heap.size (w.heap.size + 1) none (bitsOf (P5 ++ rest.take k)) false) (fun _ si _ => n' - (intOf si).toNat)
          case atStart => exact ⟨0, by omega, rfl, HP5.out⟩
          case round =>
            clear HP5
            obtain ⟨k, hk, rfl, hP⟩ := hrel
            have HP := Lib.hid hP
            clear hP
            by_cases hkm : k < n'
            · have hBB : Below w.heap.size w wr := Ps.belowN HB1.out HP.out
              obtain ⟨bb, off, x, rfl, hcell, hx, hblt⟩ := (HSI.out.below hBB (Nat.le_refl _)).cells (i := k) (by omega)
              have hxm : x ∈ b := HMEM.out x (List.mem_of_getElem? hx.out)
              have x0 := (hwf x hxm).1
              have x1 := (hwf x hxm).2
              clear hBB hxm hblt
              have hlk : (P5 ++ rest.take k).length ≤ 5000000 := by rw [List.length_append, List.length_take]; omega
              go_wp2_with fail
              refine (putPs (n := 8) _ _ HP.out x0 (by omega) (by omega) (by rw [bitsOf_len]; omega)).mono ?_
              rintro e w6 ⟨rfl, hP6⟩
              have HP6 : Hid (Ps w1 w6 w.heap.size (w.heap.size + 1) none (bitsOf (P5 ++ rest.take (k + 1))) false) := by
                show Ps _ _ _ _ _ _ _
                rw [take_snoc hx.out, ← List.append_assoc, bitsOf_append (P5 ++ rest.take k)]
                simpa [bitsOf, byteBits] using hP6
              clear hP6 HP hcell
              go_wp2
              go_roundw
              case rel => exact ⟨k + 1, by first | omega | (have := HKM.out; omega), by go_num, HP6.out⟩
              case measure => first | (have := HKM.out; simp [intOf]; omega) | (simp [intOf]; omega)
            · have hkM : n' = k := by omega
              subst hkM
              go_wp2_with fail
              refine ⟨⟨rest.drop n', storedB b, _, 0, _, false, rfl, rfl, Nat.zero_le _, ?_, fun y hy => HMEM0.out y (List.mem_of_mem_drop hy), ?_, .inr ⟨rfl, rfl, rfl⟩⟩, ?_⟩
              · have := SI.cut8 HSI.out hc' (Nat.le_refl _)
                rw [Nat.sub_self] at this
                exact this
              · have := HP.out
                rw [sto_last hlr hn6 HQ5.out HPRE.out] at this
                exact this
              · simp [lenOf, sfOf]; try omega
        · go_wp2_with fail
          refine (putPs (n := 3) _ _ HP.out (by omega) (by omega) (by omega) (by rw [bitsOf_len]; omega)).mono ?_
          rintro e w2 ⟨rfl, hP2⟩
          have HP2 := Lib.hid hP2
          clear hP2 HP
          go_wp2_with fail
          refine (align_any _ _ HP2.out (by rw [List.length_append, putV_len, bitsOf_len]; omega)).mono ?_
          rintro e w3 ⟨rfl, k, hk, hk8, hP3⟩
          obtain rfl : k = 5 := by rw [List.length_append, putV_len, bitsOf_len] at hk8; omega
          have HP3 : Hid (Ps w1 w3 w.heap.size (w.heap.size + 1) none (bitsOf (pre ++ [1])) false) := by
            show Ps _ _ _ _ _ _ _
            rw [List.append_assoc, lastBits (by omega)] at hP3
            rw [bitsOf_append]; simpa [bitsOf] using hP3
          clear hP3 HP2 hk8 hk
          go_wp2_with fail
          refine (putPs (n := 16) _ _ HP3.out (by omega) (by omega) (by omega) (by rw [bitsOf_len, List.length_append]; simp; omega)).mono ?_
          rintro e w4 ⟨rfl, hP4⟩
          have HP4 : Hid (Ps w1 w4 w.heap.size (w.heap.size + 1) none (bitsOf (pre ++ [1, (n' : Int) % 256, (n' : Int) / 256])) false) := by
            show Ps _ _ _ _ _ _ _
            rw [put16 _ (by omega) (by omega), ← bitsOf_append, List.append_assoc] at hP4
            exact hP4
          clear hP4 HP3
          have hx : bits .xor .u32 (n' : Int) 65535 = ((65535 - n' : Nat) : Int) := xor16 n' (by omega)
          go_wp2_with fail
          refine (putPs (n := 16) _ _ HP4.out (by omega) (by omega) (by omega) (by rw [bitsOf_len, List.length_append]; simp; omega)).mono ?_
          rintro e w5 ⟨rfl, hP5⟩
          obtain ⟨P5, hq5⟩ : ∃ P5, P5 = pre ++ [1, (n' : Int) % 256, (n' : Int) / 256, (65535 - (n' : Int)) % 256, (65535 - (n' : Int)) / 256] := ⟨_, rfl⟩
          have HP5 : Hid (Ps w1 w5 w.heap.size (w.heap.size + 1) none (bitsOf (P5 ++ rest.take 0)) false) := by
            show Ps _ _ _ _ _ _ _
            rw [put16 _ (by omega) (by omega), ← bitsOf_append, List.append_assoc] at hP5
            rw [hq5, List.take_zero, List.append_nil]
            have e : (((n' : Nat)) : Int) = (n' : Int) := rfl
            have e2 : ((65535 - n' : Nat) : Int) = 65535 - (n' : Int) := by omega
            first | exact hP5 | (rw [e2] at hP5; exact hP5)
          have HMEM : Hid (∀ x ∈ rest, x ∈ b) := HMEM0
          have hl5 : P5.length = pre.length + 5 := by rw [hq5]; simp
          have HQ5 := Lib.hid hq5
          clear hP5 HP4 hq5 hx
          go_wp2_with fail
          go_loopw [8, 41] (fun _ si wx => ∃ k : Nat, k ≤ n' ∧ si = .int .i64 k ∧ Ps w1 wx w.heap.size (w.heap.size + 1) none (bitsOf (P5 ++ rest.take k)) false) (fun _ si _ => n' - (intOf si).toNat)
          case atStart => exact ⟨0, by omega, rfl, HP5.out⟩
          case round =>
            clear HP5
            obtain ⟨k, hk, rfl, hP⟩ := hrel
            have HP := Lib.hid hP
            clear hP
            by_cases hkm : k < n'
            · have hBB : Below w.heap.size w wr := Ps.belowN HB1.out HP.out
              obtain ⟨bb, off, x, rfl, hcell, hx, hblt⟩ := (HSI.out.below hBB (Nat.le_refl _)).cells (i := k) (by omega)
              have hxm : x ∈ b := HMEM.out x (List.mem_of_getElem? hx.out)
              have x0 := (hwf x hxm).1
              have x1 := (hwf x hxm).2
              clear hBB hxm hblt
              have hlk : (P5 ++ rest.take k).length ≤ 5000000 := by rw [List.length_append, List.length_take]; omega
              go_wp2_with fail
              refine (putPs (n := 8) _ _ HP.out x0 (by omega) (by omega) (by rw [bitsOf_len]; omega)).mono ?_
              rintro e w6 ⟨rfl, hP6⟩
              have HP6 : Hid (Ps w1 w6 w.heap.size (w.heap.size + 1) none (bitsOf (P5 ++ rest.take (k + 1))) false) := by
                show Ps _ _ _ _ _ _ _
                rw [take_snoc hx.out, ← List.append_assoc, bitsOf_append (P5 ++ rest.take k)]
                simpa [bitsOf, byteBits] using hP6
              clear hP6 HP hcell
              go_wp2
              go_roundw
              case rel => exact ⟨k + 1, by first | omega | (have := HKM.out; omega), by go_num, HP6.out⟩
              case measure => first | (have := HKM.out; simp [intOf]; omega) | (simp [intOf]; omega)
            · have hkM : n' = k := by omega
              subst hkM
              go_wp2_with fail
              refine ⟨⟨rest.drop n', storedB b, _, 0, _, false, rfl, rfl, Nat.zero_le _, ?_, fun y hy => HMEM0.out y (List.mem_of_mem_drop hy), ?_, .inr ⟨rfl, rfl, rfl⟩⟩, ?_⟩
              · have := SI.cut8 HSI.out hc' (Nat.le_refl _)
                rw [Nat.sub_self] at this
                exact this
              · have := HP.out
                rw [sto_last hlr hn6 HQ5.out HPRE.out] at this
                exact this
              · simp [lenOf, sfOf]; try omega
      · cases fs
        · have hn1 : 0 < n' := by rcases hgo with h | h; cases h; exact h
          have d1 : decide (0 < (n' : Int)) = true := decide_eq_true (by omega)
          go_wp2_with fail
          refine (putPs (n := 3) _ _ HP.out (by omega) (by omega) (by omega) (by rw [bitsOf_len]; omega)).mono ?_
          rintro e w2 ⟨rfl, hP2⟩
          have HP2 := Lib.hid hP2
          clear hP2 HP
          go_wp2_with fail
          refine (align_any _ _ HP2.out (by rw [List.length_append, putV_len, bitsOf_len]; omega)).mono ?_
          rintro e w3 ⟨rfl, k, hk, hk8, hP3⟩
          obtain rfl : k = 5 := by rw [List.length_append, putV_len, bitsOf_len] at hk8; omega
          have HP3 : Hid (Ps w1 w3 w.heap.size (w.heap.size + 1) none (bitsOf (pre ++ [0])) false) := by
            show Ps _ _ _ _ _ _ _
            rw [List.append_assoc, lastBits (by omega)] at hP3
            rw [bitsOf_append]; simpa [bitsOf] using hP3
          clear hP3 HP2 hk8 hk
          go_wp2_with fail
          refine (putPs (n := 16) _ _ HP3.out (by omega) (by omega) (by omega) (by rw [bitsOf_len, List.length_append]; simp; omega)).mono ?_
          rintro e w4 ⟨rfl, hP4⟩
          have HP4 : Hid (Ps w1 w4 w.heap.size (w.heap.size + 1) none (bitsOf (pre ++ [0, 65535 % 256, 65535 / 256])) false) := by
            show Ps _ _ _ _ _ _ _
            rw [put16 _ (by omega) (by omega), ← bitsOf_append, List.append_assoc] at hP4
            exact hP4
          clear hP4 HP3
          have hx : bits .xor .u32 65535 65535 = 0 := xor16 65535 (by omega)
          go_wp2_with fail
          refine (putPs (n := 16) _ _ HP4.out (by omega) (by omega) (by omega) (by rw [bitsOf_len, List.length_append]; simp; omega)).mono ?_
          rintro e w5 ⟨rfl, hP5⟩
          obtain ⟨P5, hq5⟩ : ∃ P5, P5 = pre ++ [0, 65535 % 256, 65535 / 256, (65535 - 65535) % 256, (65535 - 65535) / 256] := ⟨_, rfl⟩
          have HP5 : Hid (Ps w1 w5 w.heap.size (w.heap.size + 1) none (bitsOf (P5 ++ rest.take 0)) false) := by
            show Ps _ _ _ _ _ _ _
            rw [put16 _ (by omega) (by omega), ← bitsOf_append, List.append_assoc] at hP5
            rw [hq5, List.take_zero, List.append_nil]
            have e : (((65535 : Nat)) : Int) = 65535 := rfl
            have e2 : ((65535 - 65535 : Nat) : Int) = 65535 - 65535 := by omega
            first | exact hP5 | (rw [e2] at hP5; exact hP5)
          have HMEM : Hid (∀ x ∈ rest, x ∈ b) := HMEM0
          have hl5 : P5.length = pre.length + 5 := by rw [hq5]; simp
          have HQ5 := Lib.hid hq5
          clear hP5 HP4 hq5 hx
          go_wp2_with fail
          go_loopw [8, 41] (fun _ si wx => ∃ k : Nat, k ≤ 65535 ∧ si = .int .i64 k ∧ Ps w1 wx w.heap.size (w.heap.size + 1) none (bitsOf (P5 ++ rest.take k)) false) (fun _ si _ => 65535 - (intOf si).toNat)
          case atStart => exact ⟨0, by omega, rfl, HP5.out⟩
          case round =>
            clear HP5
            obtain ⟨k, hk, rfl, hP⟩ := hrel
            have HP := Lib.hid hP
            clear hP
            by_cases hkm : k < 65535
            · have hBB : Below w.heap.size w wr := Ps.belowN HB1.out HP.out
              obtain ⟨bb, off, x, rfl, hcell, hx, hblt⟩ := (HSI.out.below hBB (Nat.le_refl _)).cells (i := k) (by omega)
              have hxm : x ∈ b := HMEM.out x (List.mem_of_getElem? hx.out)
              have x0 := (hwf x hxm).1
              have x1 := (hwf x hxm).2
              clear hBB hxm hblt
              have hlk : (P5 ++ rest.take k).length ≤ 5000000 := by rw [List.length_append, List.length_take]; omega
              have dk : decide ((k : Int) < 65535) = true := decide_eq_true (by omega)
              have i1 : (k : Int) < 65535 := by omega
              have HKM := Lib.hid hkm
              have HK := Lib.hid hk
              have HN6 := Lib.hid hn6
              clear hkm hk hn6 hgo hf
              go_wp2_with fail
              refine (putPs (n := 8) _ _ HP.out x0 (by omega) (by omega) (by rw [bitsOf_len]; omega)).mono ?_
              rintro e w6 ⟨rfl, hP6⟩
              have HP6 : Hid (Ps w1 w6 w.heap.size (w.heap.size + 1) none (bitsOf (P5 ++ rest.take (k + 1))) false) := by
                show Ps _ _ _ _ _ _ _
                rw [take_snoc hx.out, ← List.append_assoc, bitsOf_append (P5 ++ rest.take k)]
                simpa [bitsOf, byteBits] using hP6
              clear hP6 HP hcell
              go_wp2
              go_roundw
              case rel => exact ⟨k + 1, by first | omega | (have := HKM.out; omega), by go_num, HP6.out⟩
              case measure => first | (have := HKM.out; simp [intOf]; omega) | (simp [intOf]; omega)
            · have hkM : k = 65535 := by omega
              subst hkM
              go_wp2_with fail
              refine ⟨⟨rest.drop 65535, P5 ++ rest.take 65535, _, _, _, false, rfl, rfl, by omega, ?_, fun y hy => HMEM0.out y (List.mem_of_mem_drop hy), HP.out, .inl ⟨.inr (by omega), sto_more (by omega) hf HQ5.out HPRE.out⟩⟩, ?_⟩
              · have := SI.cut8 (m := 65535) HSI.out hc' (by omega)
                unfold shA at this
                rw [if_neg (by omega)] at this
                exact this
              · simp [lenOf, sfOf]; omega
        · go_wp2_with fail
          refine (putPs (n := 3) _ _ HP.out (by omega) (by omega) (by omega) (by rw [bitsOf_len]; omega)).mono ?_
          rintro e w2 ⟨rfl, hP2⟩
          have HP2 := Lib.hid hP2
          clear hP2 HP
          go_wp2_with fail
          refine (align_any _ _ HP2.out (by rw [List.length_append, putV_len, bitsOf_len]; omega)).mono ?_
          rintro e w3 ⟨rfl, k, hk, hk8, hP3⟩
          obtain rfl : k = 5 := by rw [List.length_append, putV_len, bitsOf_len] at hk8; omega
          have HP3 : Hid (Ps w1 w3 w.heap.size (w.heap.size + 1) none (bitsOf (pre ++ [0])) false) := by
            show Ps _ _ _ _ _ _ _
            rw [List.append_assoc, lastBits (by omega)] at hP3
            rw [bitsOf_append]; simpa [bitsOf] using hP3
          clear hP3 HP2 hk8 hk
          go_wp2_with fail
          refine (putPs (n := 16) _ _ HP3.out (by omega) (by omega) (by omega) (by rw [bitsOf_len, List.length_append]; simp; omega)).mono ?_
          rintro e w4 ⟨rfl, hP4⟩
          have HP4 : Hid (Ps w1 w4 w.heap.size (w.heap.size + 1) none (bitsOf (pre ++ [0, 65535 % 256, 65535 / 256])) false) := by
            show Ps _ _ _ _ _ _ _
            rw [put16 _ (by omega) (by omega), ← bitsOf_append, List.append_assoc] at hP4
            exact hP4
          clear hP4 HP3
          have hx : bits .xor .u32 65535 65535 = 0 := xor16 65535 (by omega)
          go_wp2_with fail
          refine (putPs (n := 16) _ _ HP4.out (by omega) (by omega) (by omega) (by rw [bitsOf_len, List.length_append]; simp; omega)).mono ?_
          rintro e w5 ⟨rfl, hP5⟩
          obtain ⟨P5, hq5⟩ : ∃ P5, P5 = pre ++ [0, 65535 % 256, 65535 / 256, (65535 - 65535) % 256, (65535 - 65535) / 256] := ⟨_, rfl⟩
          have HP5 : Hid (Ps w1 w5 w.heap.size (w.heap.size + 1) none (bitsOf (P5 ++ rest.take 0)) false) := by
            show Ps _ _ _ _ _ _ _
            rw [put16 _ (by omega) (by omega), ← bitsOf_append, List.append_assoc] at hP5
            rw [hq5, List.take_zero, List.append_nil]
            have e : (((65535 : Nat)) : Int) = 65535 := rfl
            have e2 : ((65535 - 65535 : Nat) : Int) = 65535 - 65535 := by omega
            first | exact hP5 | (rw [e2] at hP5; exact hP5)
          have HMEM : Hid (∀ x ∈ rest, x ∈ b) := HMEM0
          have hl5 : P5.length = pre.length + 5 := by rw [hq5]; simp
          have HQ5 := Lib.hid hq5
          clear hP5 HP4 hq5 hx
          go_wp2_with fail
          go_loopw [8, 41] (fun _ si wx => ∃ k : Nat, k ≤ 65535 ∧ si = .int .i64 k ∧ Ps w1 wx w.heap.size (w.heap.size + 1) none (bitsOf (P5 ++ rest.take k)) false) (fun _ si _ => 65535 - (intOf si).toNat)
          case atStart => exact ⟨0, by omega, rfl, HP5.out⟩
          case round =>
            clear HP5
            obtain ⟨k, hk, rfl, hP⟩ := hrel
            have HP := Lib.hid hP
            clear hP
            by_cases hkm : k < 65535
            · have hBB : Below w.heap.size w wr := Ps.belowN HB1.out HP.out
              obtain ⟨bb, off, x, rfl, hcell, hx, hblt⟩ := (HSI.out.below hBB (Nat.le_refl _)).cells (i := k) (by omega)
              have hxm : x ∈ b := HMEM.out x (List.mem_of_getElem? hx.out)
              have x0 := (hwf x hxm).1
              have x1 := (hwf x hxm).2
              clear hBB hxm hblt
              have hlk : (P5 ++ rest.take k).length ≤ 5000000 := by rw [List.length_append, List.length_take]; omega
              have dk : decide ((k : Int) < 65535) = true := decide_eq_true (by omega)
              have i1 : (k : Int) < 65535 := by omega
              have HKM := Lib.hid hkm
              have HK := Lib.hid hk
              have HN6 := Lib.hid hn6
              clear hkm hk hn6 hgo hf
              go_wp2_with fail
              refine (putPs (n := 8) _ _ HP.out x0 (by omega) (by omega) (by rw [bitsOf_len]; omega)).mono ?_
              rintro e w6 ⟨rfl, hP6⟩
              have HP6 : Hid (Ps w1 w6 w.heap.size (w.heap.size + 1) none (bitsOf (P5 ++ rest.take (k + 1))) false) := by
                show Ps _ _ _ _ _ _ _
                rw [take_snoc hx.out, ← List.append_assoc, bitsOf_append (P5 ++ rest.take k)]
                simpa [bitsOf, byteBits] using hP6
              clear hP6 HP hcell
              go_wp2
              go_roundw
              case rel => exact ⟨k + 1, by first | omega | (have := HKM.out; omega), by go_num, HP6.out⟩
              case measure => first | (have := HKM.out; simp [intOf]; omega) | (simp [intOf]; omega)
            · have hkM : k = 65535 := by omega
              subst hkM
              go_wp2_with fail
              refine ⟨⟨rest.drop 65535, P5 ++ rest.take 65535, _, _, _, false, rfl, rfl, by omega, ?_, fun y hy => HMEM0.out y (List.mem_of_mem_drop hy), HP.out, .inl ⟨.inr (by omega), sto_more (by omega) hf HQ5.out HPRE.out⟩⟩, ?_⟩
              · have := SI.cut8 (m := 65535) HSI.out hc' (by omega)
                unfold shA at this
                rw [if_neg (by omega)] at this
                exact this
              · simp [lenOf, sfOf]; omega
    · obtain ⟨⟨A9, c9, B9, hW9, ho9⟩, hC9⟩ := hPs
      have hBB : Below w.heap.size w wr := HB1.out.trans (hC9.below HB1.out.size (fun i h => by rcases h with h | h; exact Nat.le_of_eq h.symm; cases h))
      have hBS : B9 = storedB b := by
        have hpk := hW9.pk
        rw [hpre] at hpk
        exact Pk.uniq hpk (Pk.bytes (storedF_wf _ _ hwf))
      have HBB := Lib.hid hBB
      have HW9 := Lib.hid hW9
      have HBS := Lib.hid hBS
      clear hW9 ho9 hC9 hBB hBS hmem
      go_wp2_with fail
      refine (wbytes_any _ HW9.out).mono ?_
      rintro e w10 ⟨A10, c10, rfl, hown, hb10⟩
      have hown2 := own_mono hown HBB.out.size
      have hb2 := HBB.out.trans (hb10.mono HBB.out.size)
      have HO := Lib.hid hown2
      have HB2 := Lib.hid hb2
      clear hown hb10 hown2 hb2
      go_wp2
      go_ret
      rw [← HBS.out]
      exact ⟨A10, c10, rfl, HO.out, HB2.out⟩
end Go.Proofs.YtmgbjgjlddifaaaGreat.Def
