/-
  Texts of this claim, joined by program (InfG, DefL, DefJ). Plain: which streams Raw's are; bytes that are alike are written by the fixed codes.
-/
import Derived.Test.YtmgbjgjlddifaaaGreatZG23
import Derived.Test.YtmgbjgjlddifaaaGreatZG24
import Derived.Laws.BytesArg
import Derived.Lib.SlBytesConst
set_option linter.unusedVariables false
set_option linter.unusedSimpArgs false
namespace Go.Proofs.YtmgbjgjlddifaaaGreat.Inf
open Go.RowKit K Bits Pfx Def Wrt Bak Ref RefR RefT RefX Lst LawB MapG

theorem rowBits_ge {O : List Int} : ∀ row : List Int, (∀ x ∈ row, 0 < O.getD x.toNat 0) → row.length ≤ (rowBits O row).length
  | [], _ => Nat.zero_le _
  | x :: row, h => by
    have h1 := rowBits_ge row (fun y hy => h y (List.mem_cons_of_mem _ hy))
    have h2 := h x (by simp)
    show _ ≤ (codeBits O x.toNat ++ rowBits O row).length
    rw [List.length_append, codeBits_len, List.length_cons]
    omega
theorem good_mem {l L : List Int} {mo : Nat} (h : GoodC l mo L) {x : Int} (hx : x ∈ L) : 0 ≤ x ∧ x ≤ mo := by
  obtain ⟨i, hi, rfl⟩ := List.getElem_of_mem hx
  have := h.fit i (by rw [← h.len]; exact hi)
  rw [getD_of (List.getElem?_eq_getElem hi)] at this
  omega
theorem lits_len {ps : List Pc} {L : List Int} {mo : Nat} (h : GoodC (litsL ps) mo L) : L.length = 286 := by rw [h.len]; simp [litsL]
theorem dists_len {ps : List Pc} {L : List Int} {mo : Nat} (h : GoodC (distsL ps) mo L) : L.length = 30 := by rw [h.len]; simp [distsL]
theorem row_len {row : List Int} {L : List Int} {mo : Nat} (h : GoodC (rowL row) mo L) : L.length = 19 := by rw [h.len]; simp [Def.rowL]
/-- the codes that a row uses are there -/
theorem row_use {row O : List Int} {mo : Nat} (hO : GoodC (rowL row) mo O) (hr : ∀ x ∈ row, 0 ≤ x ∧ x ≤ 15) : ∀ x ∈ row, 0 < O.getD x.toNat 0 := fun x hx => by
  have hb := hr x hx
  obtain ⟨n, rfl⟩ := Int.eq_ofNat_of_zero_le hb.1
  have hf := (hO.fit n (by simp [Def.rowL]; omega)).2.2
  refine hf.2 ?_
  unfold Def.rowL
  rw [range_getD _ (show n < 19 by omega)]
  unfold cntR
  rw [List.take_length]
  have := List.count_pos_iff.2 hx
  omega
theorem row_mem {ps : List Pc} {L D : List Int} (hL : GoodC (litsL ps) 15 L) (hD : GoodC (distsL ps) 15 D) : ∀ x ∈ L ++ D, 0 ≤ x ∧ x ≤ 15 := fun x hx => by
  rcases List.mem_append.1 hx with h | h
  · exact good_mem hL h
  · exact good_mem hD h
theorem dyn_len {b L D O : List Int} (hL : GoodC (litsL (psOf b)) 15 L) (hD : GoodC (distsL (psOf b)) 15 D) (hO : GoodC (rowL (L ++ D)) 7 O) : 390 ≤ (dynS b L D O).length := by
  have l1 := lits_len hL
  have l2 := dists_len hD
  have h1 := rowBits_ge (O := O) (L ++ D) (row_use hO (row_mem hL hD))
  have h2 : (headBits O).length = 57 := by simp [headBits, List.length_flatMap, putV_length, ordN]
  unfold dynS dynBits
  simp only [List.length_append, putV_length] at h1 ⊢
  omega
/-! bytes that are alike -/
theorem alike_end {b : List Int} {c : Pc → Nat} (c1 : ∀ x, c ⟨x, 0, 0⟩ ≤ 9) : ∀ d i f, b.length ≤ i + d → ¬ i + 2 < b.length → costs c (piecesM b f i) ≤ 9 * (b.length - i) := by
  intro d
  induction d with
  | zero =>
    intro i f hd hi
    cases f with
    | zero => simp [piecesM, costs]
    | succ f => rw [piecesM, if_neg (by omega)]; simp [costs]
  | succ d ih =>
    intro i f hd hi
    cases f with
    | zero => simp [piecesM, costs]
    | succ f =>
      rw [piecesM]
      by_cases h1 : i < b.length
      · rw [if_pos h1]
        have hb : best b i = (0, 0) := by unfold best; rw [if_neg hi]
        rw [hb]
        have hp : pieceAt b i = ⟨(b.getD i 0).toNat, 0, 0⟩ := by unfold pieceAt; rw [hb]; rfl
        have := ih (i + 1) f (by omega) (by omega)
        have := c1 (b.getD i 0).toNat
        simp only [costs, List.map_cons, List.sum_cons, hp] at *
        rw [if_pos (by omega)]
        omega
      · rw [if_neg h1]; simp [costs]
theorem alike_cost13 {b : List Int} {c : Pc → Nat} (h : ∀ i, i < b.length → b.getD i 0 = b.getD 0 0) (c1 : ∀ x, c ⟨x, 0, 0⟩ ≤ 9) (c2 : ∀ n, 3 ≤ n → n ≤ 258 → c ⟨0, n, 1⟩ ≤ 18) (c3 : c ⟨0, 258, 1⟩ ≤ 13) :
    ∀ f i, 1 ≤ i → costs c (piecesM b f i) ≤ 13 * ((b.length - i) / 258) + 36 := by
  intro f
  induction f with
  | zero => intro i h1; simp [piecesM, costs]
  | succ f ih =>
    intro i h1
    by_cases h2 : i + 2 < b.length
    · rw [piecesM, if_pos (by omega)]
      have hb := alike_best h h1 h2
      rw [hb]
      have hp : pieceAt b i = ⟨0, min 258 (b.length - i), 1⟩ := by
        unfold pieceAt; rw [hb, if_neg (by simp only []; omega)]
        simp only []
        rw [show i - (i - 1) = 1 by omega]
      have hc := c2 (min 258 (b.length - i)) (by omega) (by omega)
      rw [if_neg (by simp only []; omega)]
      have hi := ih (i + min 258 (b.length - i)) (by omega)
      simp only [costs, List.map_cons, List.sum_cons, hp] at *
      by_cases h3 : 258 ≤ b.length - i
      · rw [Nat.min_eq_left h3] at *
        have : (b.length - (i + 258)) / 258 + 1 = (b.length - i) / 258 := by omega
        omega
      · rw [Nat.min_eq_right (by omega)] at *
        have e : b.length - (i + (b.length - i)) = 0 := by omega
        rw [e] at hi
        have hz : ((piecesM b f (i + (b.length - i))).map c).sum = 0 := by
          cases f with
          | zero => simp [piecesM]
          | succ f => rw [piecesM, if_neg (by omega)]; simp
        rw [hz]; omega
    · have := alike_end c1 2 i (f + 1) (by omega) h2
      omega
theorem alike_all13 {b : List Int} {c : Pc → Nat} (h : ∀ i, i < b.length → b.getD i 0 = b.getD 0 0) (c1 : ∀ x, c ⟨x, 0, 0⟩ ≤ 9) (c2 : ∀ n, 3 ≤ n → n ≤ 258 → c ⟨0, n, 1⟩ ≤ 18) (c3 : c ⟨0, 258, 1⟩ ≤ 13) (f : Nat) :
    costs c (piecesM b f 0) ≤ 13 * (b.length / 258) + 45 := by
  cases f with
  | zero => simp [piecesM, costs]
  | succ f =>
    rw [piecesM]
    by_cases h1 : 0 < b.length
    · rw [if_pos h1]
      have hb : best b 0 = (0, 0) := by
        unfold best cands places
        split <;> simp
      have hp : pieceAt b 0 = ⟨(b.getD 0 0).toNat, 0, 0⟩ := by unfold pieceAt; rw [hb]; rfl
      rw [hb, if_pos (by simp only []; omega)]
      have := alike_cost13 h c1 c2 c3 f (0 + 1) (by omega)
      have := c1 (b.getD 0 0).toNat
      simp only [costs, List.map_cons, List.sum_cons, hp] at *
      omega
    · rw [if_neg h1]; simp [costs]
theorem fixC_258 : fixC ⟨0, 258, 1⟩ ≤ 13 := by decide +kernel
theorem fixBits_le {b : List Int} (h : ∀ i, i < b.length → b.getD i 0 = b.getD 0 0) : (fixBits b).length ≤ 13 * (b.length / 258) + 56 ∧ (b.length ≤ 2 → (fixBits b).length ≤ 9 * b.length + 11) := by
  have h1 := alike_all13 (c := fixC) h fixC_lit fixC_one fixC_258 b.length
  have h2 := fixL_hi ⟨0, by omega⟩
  simp only [Nat.add_zero] at h2
  have e : (fun p => (pieceBits fixL fixD p).length) = fixC := rfl
  unfold fixBits
  rw [List.length_append, putV_length, body_len, e]
  unfold psOf
  refine ⟨by omega, fun h3 => ?_⟩
  have h4 := alike_end (b := b) (c := fixC) fixC_lit 2 0 b.length (by omega) (by omega)
  omega
/-- so many bytes of one kind, above level 0: the stream is the fixed codes' -/
theorem alike_fix {b x : List Int} {level : Nat} (h : Str b level x) (hl : 1 ≤ level) (ha : ∀ i, i < b.length → b.getD i 0 = b.getD 0 0) (hn : b.length ≤ 5000) : Pk x false (fixBits b) := by
  have h1 := fixBits_le ha
  have h2 := h.lef hl
  rcases h.kind with hk | ⟨-, hk⟩ | ⟨-, L, D, O, hL, hD, hO, hk⟩
  · have hs : (storedB b).length = b.length + 5 := by
      unfold storedB
      rw [storedF, if_pos (by omega)]
      unfold chunk; simp
    rw [hk, hs] at h2
    have := h1.2
    omega
  · exact hk
  · have := dyn_len hL hD hO
    have := hk.len
    omega
end Go.Proofs.YtmgbjgjlddifaaaGreat.Inf
set_option linter.unusedVariables false
set_option linter.unusedSimpArgs false
namespace Go.Proofs.YtmgbjgjlddifaaaGreat.Law
open Go.RowKit K Pfx Bits Def Wrt

/-- n bytes of new memory -/
def OwnP (w : World) (n : Nat) (b : List Int) (e : Ending) (w' : World) : Prop :=
  ∃ A' c', e = .returned (.slice A' n c') ∧ w'.ownsRow w.heap.size 5 1 (.slice A' n c') n (b.map (.int .u8)) ∧ Below w.heap.size w w' ∧ n ≤ c'
theorem own_cap {w : World} {base e sz n c : Nat} {A : Option Addr} {xs : List Value} (h : w.ownsRow base e sz (.slice A n c) n xs) : n ≤ c := by
  rcases h.2 with ⟨hv, rfl⟩ | ⟨g, cap, cur, hv, _, _, hn, _⟩
  · have := h.1; simp at this; omega
  · injection hv with _ _ hc; omega
set_option maxHeartbeats 400000 in
theorem ownb_any {A : Option Addr} {n c : Nat} {l : List Int} (w : World) (HA : SI w .u8 A n l) : Calls Tryz.prog 6 #[.slice A n c] w (OwnP w n l) := by
  have hbig := HA.bigb
  have hlen := Lib.hid HA.len
  go_enter Tryz.func6, Tryz.ntmps6
  go_wp2_with (at_builtin; refine wpList_append_sl _ rfl (.tmp 3) (.tmp 4) _ rfl w.heap.size 5 1 1 _ Tryz.underlying22 infoU8 rfl (by omega) (.slice (some ⟨w.heap.size, 0, none⟩) 0 0) 0 [] rfl ?c1 A n c (l.map (.int .u8)) rfl ?c2 ?c3 (ones _ _) ?c4 ?c5 ?c6 ?_)
  case c1 => exact World.ownsRow_made w #[] 0 (Nat.le_refl _) (by simp [maxLen]) rfl
  case c2 => simp [hlen.out]
  case c3 => exact HA.sl.alloc _
  case c4 => unfold maxLen; omega
  case c5 => omega
  case c6 => simp
  intro v' w1 hown hg _
  obtain ⟨A', c', rfl⟩ := own_form hown
  have hb : Below w.heap.size w w1 := ((Below.refl w.heap.size w).alloc (Nat.le_refl _) _).grown hg (by simp) (fun k hk => by simp [Value.ownBlock] at hk; omega)
  have hc := Lib.hid (own_cap hown)
  go_wp2
  go_ret
  exact ⟨A', c', rfl, hown, hb, hc.out⟩
set_option maxHeartbeats 1000000 in
theorem same_any {A B : Option Addr} {n c m d : Nat} {l r : List Int} (w : World) (HA : SI w .u8 A n l) (HB : SI w .u8 B m r) :
    Calls Tryz.prog 10 #[.slice A n c, .slice B m d] w fun e w' => e = .returned (.bool (decide (l = r))) ∧ ∃ k, w' = w.drewN k := by
  have ha := HA.bigb
  have hb := HB.bigb
  have la := Lib.hid HA.len
  have lb := Lib.hid HB.len
  generalize hres : decide (l = r) = res
  have HRS := Lib.hid hres
  clear hres
  by_cases hnm : n = m
  · subst hnm
    have hne : ((n : Int) != (n : Int)) = false := by simp
    go_enter Tryz.func10, Tryz.ntmps10
    go_wp2
    go_loopw [5] (fun i wr => ∃ k q : Nat, k ≤ n ∧ i = .int .i64 k ∧ w.drewN q = wr ∧ Hid (l.take k = r.take k)) (fun i _ => n - (intOf i).toNat)
    case atStart => exact ⟨0, 0, by omega, rfl, rfl, rfl⟩
    case round =>
      obtain ⟨k, q, hk, rfl, rfl, HK⟩ := hrel
      by_cases hlt : k < n
      · obtain ⟨b1, o1, x, rfl, hc1, hx, _⟩ := HA.cells hlt
        obtain ⟨b2, o2, y, rfl, hc2, hy, _⟩ := HB.cells hlt
        have hd : decide ((k : Int) < (n : Int)) = true := by simp; omega
        by_cases hxy : x = y
        · subst hxy
          have hb : (x != x) = false := by simp
          have hs : Hid (l.take (k+1) = r.take (k+1)) := by show _ = _; rw [take_snoc hx.out, take_snoc hy.out, HK.out]
          go_wp2
          go_quiet (fail)
          go_wp2
          go_roundw
          case rel => exact ⟨k + 1, _, by omega, by go_num, rfl, hs⟩
          case measure => simp [intOf]; omega
        · have hb : (x != y) = true := by simp [hxy]
          have HXY := Lib.hid hxy
          clear hxy
          go_wp2
          go_quiet (fail)
          go_wp2
          go_ret
          have hlr : l ≠ r := fun e => by
            have h1 := hx.out
            rw [e, hy.out] at h1
            injection h1 with h1
            exact HXY.out h1.symm
          rw [← HRS.out, decide_eq_false hlr]
          exact ⟨rfl, q + nq, World.drewN_drewN _ _ _⟩
      · obtain rfl : k = n := by omega
        have hd : decide ((k : Int) < (k : Int)) = false := by simp
        have hlr : l = r := by
          have := HK.out
          rwa [List.take_of_length_le (by rw [la.out]; omega), List.take_of_length_le (by rw [lb.out]; omega)] at this
        have HLR := Lib.hid hlr
        clear hlr
        go_wp2
        go_ret
        rw [← HRS.out, decide_eq_true HLR.out]
        exact ⟨rfl, q, rfl⟩
  · have hne : ((n : Int) != (m : Int)) = true := by simp; omega
    go_enter Tryz.func10, Tryz.ntmps10
    go_wp2
    go_ret
    have hlr : l ≠ r := fun e => by have := la.out; rw [e, lb.out] at this; omega
    rw [← HRS.out, decide_eq_false hlr]
    exact ⟨rfl, 0, rfl⟩
end Go.Proofs.YtmgbjgjlddifaaaGreat.Law
set_option linter.unusedVariables false
set_option linter.unusedSimpArgs false
namespace Go.Proofs.YtmgbjgjlddifaaaGreat.Law
open Go.RowKit K Pfx Bits Def Wrt Inf

def WakesP (w : World) (e : Ending) (w' : World) : Prop := e = .returned (.bool true) ∧ Below w.heap.size w w'
def aaaa : List Int := [97, 97, 97, 97, 97, 97, 97, 97]
theorem aaaa_alike : ∀ i, i < aaaa.length → aaaa.getD i 0 = aaaa.getD 0 0 := by decide
theorem aaaa_wf : ∀ x ∈ aaaa, 0 ≤ x ∧ x < 256 := by decide
theorem SI.litF (w : World) (k : IntKind) (l : List Int) (T : TypeId) (r : Nat × Nat) (h : l.length * kb k ≤ 140737488351232) : SI (w.alloc (.cells (l.map (.int k)).toArray T r)) k (some ⟨w.heap.size, 0, none⟩) l.length l :=
  ⟨rfl, h, fun j u hu => ⟨w.heap.size, 0, rfl, by simp only [World.cell?, heap_alloc_new, Nat.zero_add]; simpa using hu⟩⟩
set_option maxRecDepth 20000 in
set_option maxHeartbeats 4000000 in
theorem wakes_any (w : World) : Calls Tryz.prog 4 #[] w (WakesP w) := by
  have kc := fun (w : World) (C : Array Value) (n c : Nat) => Lib.run_convert_bytes_const (P := Tryz.prog) w 22 5 C n c Tryz.underlying22 Tryz.underlying5
  go_enter Tryz.func4, Tryz.ntmps4
  go_wp2_with fail
  refine (raw_any (n := 8) (c := 8) (level := 2) (b := aaaa) _ (SI.litF w .u8 aaaa 5 (8, 9) (by decide)) (by omega) (by omega) aaaa_wf (by omega)).mono ?_
  rintro e w1 ⟨A1, c1, x, rfl, ho, hb, hs⟩
  have hpk := alike_fix hs (by omega) aaaa_alike (by decide)
  have HB1 : Hid (Below w.heap.size w w1) := ((Below.refl w.heap.size w).alloc (Nat.le_refl _) _).trans (hb.mono (by simp))
  have hxl : x.length ≤ 1000 := by have := hpk.len; have := (fixBits_le aaaa_alike).1; have : aaaa.length = 8 := rfl; omega
  have HS1 : Hid (SI w1 .u8 A1 x.length x) := SI.of_own ho (by show _ * 1 ≤ _; omega)
  have HWX := Lib.hid hpk.q.wf
  have HPK := Lib.hid hpk
  clear ho hb hs hpk
  go_wp2_with fail
  refine (rraw_fixed (b := aaaa) (most := 8) w1 HS1.out HWX.out aaaa_wf HPK.out (by decide) (by omega)).mono ?_
  rintro e w2 ⟨A2, c2, rfl, hsi, hb2⟩
  have HB2 := Lib.hid (HB1.out.trans (hb2.mono HB1.out.size))
  have HS2 := Lib.hid hsi
  clear hb2 hsi
  go_wp2_with fail
  refine (raw_bad (n := 0) (c := 0) w2 (level := 3) (.inr (by omega))).mono ?_
  rintro e w3 ⟨rfl, rfl⟩
  obtain ⟨b2, o2, y, rfl, -⟩ := HS2.out.cells (i := 0) (by decide)
  have hcv : (convert 22 9 (.slice (some ⟨b2, o2, none⟩) aaaa.length c2)).run Tryz.prog w2 = .ok (.string ⟨#[97, 97, 97, 97, 97, 97, 97, 97]⟩) w2 :=
    run_convert_bytes_arg w2 22 5 Tryz.underlying22 Tryz.underlying5 b2 o2 aaaa.length c2 aaaa rfl (fun i hi => by
      obtain ⟨b', o', z, e, hc, hz, -⟩ := HS2.out.cells (i := i) hi
      injection e with e
      injection e with e1 e2
      subst e1 e2
      rw [hc, getD_of hz.out]) 9 Tryz.underlying9
  go_wp2_with fail
  go_ret
  exact ⟨rfl, HB2.out⟩
end Go.Proofs.YtmgbjgjlddifaaaGreat.Law
