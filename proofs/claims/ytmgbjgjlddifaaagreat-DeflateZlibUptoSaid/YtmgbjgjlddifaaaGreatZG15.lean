/-
  Walks: prefix.Codes at good lengths, as a slice that is read; deflate's body.
-/
import Derived.Test.YtmgbjgjlddifaaaGreatZG14
import Derived.StillTailTactics
set_option linter.unusedVariables false
set_option linter.unusedSimpArgs false
namespace Go.Proofs.YtmgbjgjlddifaaaGreat.Def
open Go.RowKit K Bits Wrt Pfx Bak

theorem codesOf_len (l : List Int) : (codesOf l).length = l.length := by simp [codesOf]
theorem codesOf_get {l : List Int} {i : Nat} (hi : i < l.length) : (codesOf l)[i]? = some (codeAt l i) := by
  unfold codesOf; rw [List.getElem?_map, List.getElem?_range hi]; rfl
theorem codes_si {A : Option Addr} {n c : Nat} {l : List Int} (w : World) (HA : SI w .i64 A n l) (h : checkedOf l = 0) :
    Calls Tryz.prog 40 #[.slice A n c] w fun e w' => ∃ X, w.heap.size ≤ X ∧ X < w'.heap.size ∧ e = .returned (.tuple #[.slice (some ⟨X, 0, none⟩) n n, .int .i64 0]) ∧ SI w' .u32 (some ⟨X, 0, none⟩) n (codesOf l) ∧ Below w.heap.size w w' := by
  have hlen := HA.len
  have hb := HA.big
  refine (codes_ok w HA h).mono ?_
  rintro e w' ⟨rfl, h3⟩
  have hlt := h3.out.lt
  refine ⟨_, by omega, hlt, rfl, ?_, h3.bel⟩
  have h4 : w'.rowIs (w.heap.size + 2) 34 n (fun i => .int .u32 (codeAt l i)) := by
    have := h3.out
    rw [hlen] at this
    exact this.congr (fun i hi => by show Value.int .u32 (if i < n then codeAt l i else 0) = _; rw [if_pos hi])
  have h5 := SI.of_row h4 (by show _ * 4 ≤ _; omega)
  have e : codesOf l = (List.range n).map (codeAt l) := by unfold codesOf; rw [hlen]
  rw [e]
  exact h5
theorem keepG {w w' : World} {q base : Nat} {A : Option Addr} {c : Nat} {B bs : List Int} {up : Bool} {row : Option Nat} (h : Wt w q base A c B bs up) (hg : w.grownBy w' row) (hq : some q ≠ row) (hA : ∀ b, Wrt.own A = some b → some b ≠ row) : Wt w' q base A c B bs up :=
  ⟨h.row.of_block (hg.block q h.row.lt hq), h.own.kept hg (by
    cases e : (Value.slice A B.length c).ownBlock with
    | none => exact .inl rfl
    | some b => exact .inr (hA b (by rw [← own_eq A B.length c]; exact e))), h.apart, Nat.le_trans h.hi hg.size, h.pk, h.big⟩
theorem wt_below {w w' : World} {q base : Nat} {A : Option Addr} {c : Nat} {B bs : List Int} {up : Bool} (h : Wt w q base A c B bs up) (hb : Below w.heap.size w w') : Wt w' q base A c B bs up :=
  keepG h (grown_below hb none) (by simp) (fun b _ => by simp)
theorem psBelow {w0 w w' : World} {q base : Nat} {A : Option Addr} {bs : List Int} {up : Bool} (h : Ps w0 w q base A bs up) (hb : Below w.heap.size w w') : Ps w0 w' q base A bs up := by
  obtain ⟨⟨A1, c1, B, hW, ho⟩, hC⟩ := h
  exact Ps.step hC ho (wt_below hW hb) (Chg.of_below hb) (.inl rfl)
theorem off_new {w : World} {q base : Nat} {A : Option Addr} {c X : Nat} {B bs : List Int} {up : Bool} (h : Wt w q base A c B bs up) (hX : w.heap.size ≤ X) : Off (some ⟨X, 0, none⟩) (WS q A) := fun a e hs => by
  injection e with e
  subst e
  have h1 := h.apart
  have h2 := h.hi
  rcases hs with hs | hs
  · simp only at hs; omega
  · have := (h.own.lt X (by rw [own_eq]; exact hs)).2
    omega
theorem codeAt_bd (l : List Int) (i : Nat) : 0 ≤ codeAt l i ∧ codeAt l i < 4294967296 := by
  unfold codeAt
  simp only []
  split <;> omega
theorem len16 {L : List Int} (h0 : checkedOf L = 0) (s : Nat) : (L.getD s 0).toNat ≤ 16 := by
  rcases Nat.lt_or_ge s L.length with h | h
  · have hx : L[s]? = some L[s] := List.getElem?_eq_getElem h
    rw [getD_of hx]
    have := len_of (checked_zero h0).2.1 hx
    omega
  · rw [List.getD_eq_getElem?_getD, List.getElem?_eq_none h]; simp
theorem body_cells {w2 W : World} {q base bl ofl X nl : Nat} {A : Option Addr} {bs L : List Int} {up : Bool} (HP : Ps w2 W q base A bs up) (HL : SI w2 .i64 (some ⟨bl, ofl, none⟩) nl L) (HX : SI w2 .u32 (some ⟨X, 0, none⟩) nl (codesOf L))
    (oL : Off (some ⟨bl, ofl, none⟩) (WS q A)) (oX : Off (some ⟨X, 0, none⟩) (WS q A)) (h0 : checkedOf L = 0) {s : Nat} (hs : s < nl) :
    ∃ n : Nat, n ≤ 16 ∧ W.cell? ⟨bl, ofl + s, none⟩ = some (.int .i64 (n : Int)) ∧ W.cell? ⟨X, s, none⟩ = some (.int .u32 (codeAt L s)) ∧ Hid (codeBits L s = emitV (codeAt L s) n) := by
  have hl : s < L.length := by rw [HL.len]; exact hs
  obtain ⟨b1, o1, x1, e1, c1, g1, -⟩ := (SI.chg HL HP.chg oL).cells hs
  obtain ⟨b2, o2, x2, e2, c2, g2, -⟩ := (SI.chg HX HP.chg oX).cells hs
  injection e1 with e1; injection e1 with q1 q2
  injection e2 with e2; injection e2 with q3 q4
  subst q1 q2 q3 q4
  have hx := len_of (checked_zero h0).2.1 g1.out
  obtain ⟨n, rfl⟩ := Int.eq_ofNat_of_zero_le hx.1
  have h2 := g2.out
  rw [codesOf_get hl] at h2
  injection h2 with h2
  subst h2
  rw [Nat.zero_add] at c2
  refine ⟨n, by omega, c1, c2, ?_⟩
  show codeBits L s = _
  rw [codeBits_emit, getD_of g1.out]; rfl
theorem flat_len {L D : List Int} (hL : checkedOf L = 0) (hD : checkedOf D = 0) : ∀ (ps : List Pc), (∀ p ∈ ps, (p.n = 0 ∧ p.b < 256) ∨ (3 ≤ p.n ∧ p.n ≤ 258 ∧ 1 ≤ p.back ∧ p.back ≤ 32768)) → (ps.flatMap (pieceBits L D)).length ≤ 50 * ps.length := by
  intro ps
  induction ps with
  | nil => intro _; simp
  | cons p ps ih =>
    intro h
    have i := ih (fun q hq => h q (by simp [hq]))
    rw [List.flatMap_cons, List.length_append, List.length_cons]
    have hp : (pieceBits L D p).length ≤ 50 := by
      unfold pieceBits
      rcases h p (by simp) with ⟨h1, -⟩ | ⟨h1, h2, h3, h4⟩
      · rw [if_pos h1, codeBits_len]; have := len16 hL p.b; omega
      · rw [if_neg (by omega)]
        obtain ⟨-, -, b3, -⟩ := lengthM_bd h1 h2
        obtain ⟨-, d2, -⟩ := distM_bd h3 h4
        simp only [List.length_append, codeBits_len, putV_length]
        have := len16 hL (lengthM p.n).1
        have := len16 hD (distM p.back).1
        omega
    omega
theorem psSelf {w0 w W : World} {q base : Nat} {A : Option Addr} {bs : List Int} {up : Bool} (h : Ps w0 w q base A bs up) (hb : Below w.heap.size w W) :
    ∃ A1, Ps W W q base A1 bs up ∧ (∀ w' bs', Ps W w' q base A1 bs' up → Ps w0 w' q base A bs' up) ∧ ∀ X, w.heap.size ≤ X → Off (some ⟨X, 0, none⟩) (WS q A1) := by
  obtain ⟨⟨A1, c1, B1, hW, ho⟩, hC⟩ := h
  refine ⟨A1, ⟨⟨A1, c1, B1, wt_below hW hb, .inl rfl⟩, Chg.refl _ _⟩, fun w' bs' h2 => ?_, fun X hX => off_new hW hX⟩
  obtain ⟨⟨A2, c2, B2, hW2, ho2⟩, hC2⟩ := h2
  exact Ps.step (hC.trans (Chg.of_below (S := WS q A) hb) (fun i _ h => h)) (by
    rcases ho with e | e
    · exact .inl e
    · exact .inr e) hW2 hC2 ho2
/-- what body's loop keeps -/
structure Bo (w2 wr : World) (q base : Nat) (A : Option Addr) (bs : List Int) (L D : List Int) (ps : List Pc) (k : Nat) : Prop where
  ps : Ps w2 wr q base A (bs ++ (ps.take k).flatMap (pieceBits L D)) false
def GoodPs (ps : List Pc) : Prop := ∀ p ∈ ps, (p.n = 0 ∧ p.b < 256) ∨ (3 ≤ p.n ∧ p.n ≤ 258 ∧ 1 ≤ p.back ∧ p.back ≤ 32768)
theorem take_flat {ps : List Pc} {k : Nat} {p : Pc} (L D : List Int) (h : ps[k]? = some p) : (ps.take (k+1)).flatMap (pieceBits L D) = (ps.take k).flatMap (pieceBits L D) ++ pieceBits L D p := by
  rw [take_snoc h, List.flatMap_append]; simp
set_option maxRecDepth 20000 in
set_option maxHeartbeats 8000000 in
theorem body_any {q base : Nat} {A AP AL AD : Option Addr} {c np cp nl cl nd cd : Nat} {B bs L D : List Int} {ps : List Pc} (w : World) (HW : Wt w q base A c B bs false) (HP : SP w AP np ps) (HL : SI w .i64 AL nl L) (HD : SI w .i64 AD nd D)
    (oP : Off AP (WS q A)) (oL : Off AL (WS q A)) (oD : Off AD (WS q A)) (hL : checkedOf L = 0) (hD : checkedOf D = 0) (nL : 286 ≤ nl) (nD : 30 ≤ nd) (hps : GoodPs ps) (hbig : bs.length + 64 * np + 64 ≤ 281474976710656) :
    Calls Tryz.prog 19 #[.pointer (some ⟨q, 0, none⟩), .slice AP np cp, .slice AL nl cl, .slice AD nd cd] w (EmitPost w q base A (bs ++ bodyBits L D ps)) := by
  obtain ⟨bl, ofl, -, rfl, -, -, -⟩ := HL.cells (i := 0) (by omega)
  obtain ⟨bd, ofd, -, rfl, -, -, -⟩ := HD.cells (i := 0) (by omega)
  have HWW := Lib.hid HW
  have HPP := Lib.hid HP
  have HLL := Lib.hid HL
  have HDD := Lib.hid HD
  have HL0 := Lib.hid hL
  have HD0 := Lib.hid hD
  have HGP := Lib.hid hps
  have hsz := HP.sz
  have hlp := HP.len
  have hfl : ∀ k, k ≤ np → (bs ++ (ps.take k).flatMap (pieceBits L D)).length + 64 ≤ 281474976710656 := fun k hk => by
    have := flat_len hL hD (ps.take k) (fun p hp => hps p (List.mem_of_mem_take hp))
    rw [List.length_take] at this
    rw [List.length_append]; omega
  have HFL := Lib.hid hfl
  clear HW HP HL HD hL hD hps hfl hlp
  go_enter Tryz.func19, Tryz.ntmps19
  go_wp2_with fail
  refine (codes_si w HLL.out HL0.out).mono ?_
  rintro e w1 ⟨X1, hx1, hx1', rfl, hs1, hb1⟩
  have HS1 := Lib.hid hs1
  have HB1 := Lib.hid hb1
  clear hs1 hb1
  go_wp2_with fail
  refine (codes_si w1 (HDD.out.below HB1.out (Nat.le_refl _)) HD0.out).mono ?_
  rintro e w2 ⟨X2, hx2, hx2', rfl, hs2, hb2⟩
  have HS2 := Lib.hid hs2
  have HB2 := Lib.hid hb2
  clear hs2 hb2
  have HB : Hid (Below w.heap.size w w2) := HB1.out.trans (HB2.out.mono HB1.out.size)
  have hW2 := wt_below HWW.out HB.out
  have oX1 := off_new HWW.out hx1
  have oX2 := off_new HWW.out (Nat.le_trans HB1.out.size hx2)
  have HST : Hid (Bo w2 w2 q base A bs L D ps 0) := ⟨⟨⟨A, c, B, by simpa using hW2, .inl rfl⟩, Chg.refl _ _⟩⟩
  have HP2 := Lib.hid (HPP.out.below HB.out (Nat.le_refl _))
  have HL2 := Lib.hid (HLL.out.below HB.out (Nat.le_refl _))
  have HD2 := Lib.hid (HDD.out.below HB.out (Nat.le_refl _))
  have HX1 := Lib.hid (HS1.out.below HB2.out (Nat.le_refl _))
  clear hW2
  go_wp2_with fail
  go_loopw [13, 14, 15, 16, 29] (fun _ _ _ _ si wr => ∃ k : Nat, k ≤ np ∧ si = .int .i64 k ∧ Bo w2 wr q base A bs L D ps k) (fun _ _ _ _ si _ => np - (intOf si).toNat)
  case atStart => exact ⟨0, by omega, rfl, HST.out⟩
  case round =>
    clear HST
    obtain ⟨k, hk, rfl, hP⟩ := hrel
    have HPs := Lib.hid hP.ps
    have hlk := HFL.out k hk
    clear hP
    by_cases hkn : k < np
    · have hch := HPs.out.chg
      obtain ⟨bb, off, p, rfl, k0, k1, k2, hx, hblt⟩ := (HP2.out.chg hch oP).cells (i := k) hkn
      have hmem := List.mem_of_getElem? hx.out
      have HTF := Lib.hid (take_flat L D hx.out)
      by_cases hpn : p.n = 0
      · have hb256 : p.b < 256 := by rcases HGP.out p hmem with ⟨_, h⟩ | ⟨h, _⟩ <;> omega
        have HPB : Hid (pieceBits L D p = codeBits L p.b) := by show _ = _; unfold pieceBits; rw [if_pos hpn]
        obtain ⟨pb, pn, pback⟩ := p
        simp only at hpn hb256 k0 k1 k2 HPB
        subst hpn
        have HG := Lib.hid ((Below.refl wr.heap.size wr).alloc (Nat.le_refl _) (.cells #[.int .u8 (pb : Int), .int .i64 ((0 : Nat) : Int), .int .i64 (pback : Int)] 77))
        clear hch hmem
        go_wp2_with fail
        simp only [Int.cast_ofNat_Int] at HG
        have p0 : (wr.alloc (.cells #[.int .u8 (pb : Int), .int .i64 0, .int .i64 (pback : Int)] 77)).cell? ⟨wr.heap.size, 0, none⟩ = some (.int .u8 (pb : Int)) := by simp
        generalize wr.alloc (.cells #[.int .u8 (pb : Int), .int .i64 0, .int .i64 (pback : Int)] 77) = W at p0 HG ⊢
        have HPW := Lib.hid (psBelow HPs.out HG.out)
        obtain ⟨n, hn, l1, c1, he⟩ := body_cells HPW.out HL2.out HX1.out oL oX1 HL0.out (s := pb) (by omega)
        have HPD := Lib.hid (psBelow HPs.out HG.out.drew)
        have i0 : (0 : Int) ≤ (pb : Int) := by omega
        have i1 : (pb : Int) < (nl : Int) := by omega
        have cb := codeAt_bd L pb
        refine wp_region_still_tail 11 (by kernel_rfl) (by kernel_rfl) ?_
        simp only [List.take_succ_cons, List.take_zero, List.drop_succ_cons, List.drop_zero]
        repeat still_step
        refine wpStill_nil ?_
        change wpList _ _ _ _ _ (World.drew _)
        go_wp2_with fail
        refine (emit_any w2 W.drew HPD.out cb.1 cb.2 (by omega) (by omega)).mono ?_
        rintro e w3 ⟨rfl, hp3⟩
        have HP3 : Hid (Bo w2 w3 q base A bs L D ps (k + 1)) := ⟨by rw [HTF.out, HPB.out, he.out, ← List.append_assoc]; exact hp3⟩
        clear hp3 l1 c1 p0 i0 i1 cb k0 k1 k2
        go_wp2
        go_roundw
        case rel => exact ⟨k + 1, by omega, by go_num, HP3.out⟩
        case measure => simp [intOf]; omega
      · obtain ⟨g1, g2, g3, g4⟩ : 3 ≤ p.n ∧ p.n ≤ 258 ∧ 1 ≤ p.back ∧ p.back ≤ 32768 := by rcases HGP.out p hmem with ⟨h, _⟩ | h; exact absurd h hpn; exact h
        have HPB : Hid (pieceBits L D p = codeBits L (lengthM p.n).1 ++ putV false ((lengthM p.n).2.1 : Nat) (lengthM p.n).2.2 ++ codeBits D (distM p.back).1 ++ putV false ((distM p.back).2.1 : Nat) (distM p.back).2.2) := by show _ = _; unfold pieceBits; rw [if_neg hpn]
        obtain ⟨pb, pn, pback⟩ := p
        simp only at g1 g2 g3 g4 hpn k0 k1 k2 HPB
        have hne : ((pn : Int) == 0) = false := by simp; omega
        have HLB := Lib.hid (lengthM_bd g1 g2)
        have HDB := Lib.hid (distM_bd g3 g4)
        have HLC := Lib.hid (fun w0 => length_any (n := pn) w0 g1 g2)
        have HDC := Lib.hid (fun w0 => distance_any (n := pback) w0 g3 g4)
        generalize hLm : lengthM pn = lm at HPB HLB HLC
        generalize hDm : distM pback = dm at HPB HDB HDC
        obtain ⟨s1, v1, m1⟩ := lm
        obtain ⟨s2, v2, m2⟩ := dm
        simp only at HPB HLB HDB HLC HDC
        clear hLm hDm g1 g2 g3 g4 hpn
        have HG := Lib.hid ((Below.refl wr.heap.size wr).alloc (Nat.le_refl _) (.cells #[.int .u8 (pb : Int), .int .i64 (pn : Int), .int .i64 (pback : Int)] 77))
        clear hch hmem
        go_wp2_with fail
        have p0 : (wr.alloc (.cells #[.int .u8 (pb : Int), .int .i64 (pn : Int), .int .i64 (pback : Int)] 77)).cell? ⟨wr.heap.size, 2, none⟩ = some (.int .i64 (pback : Int)) := by simp
        have hz0 : (wr.alloc (.cells #[.int .u8 (pb : Int), .int .i64 (pn : Int), .int .i64 (pback : Int)] 77)).heap.size = wr.heap.size + 1 := by simp
        generalize wr.alloc (.cells #[.int .u8 (pb : Int), .int .i64 (pn : Int), .int .i64 (pback : Int)] 77) = W at p0 HG hz0 ⊢
        obtain ⟨A1, HQ0, HBK, HOF⟩ := psSelf HPs.out HG.out
        have hof := HOF wr.heap.size (Nat.le_refl _)
        have HQQ := Lib.hid HQ0
        have HBB := Lib.hid HBK
        clear HQ0 HBK HOF
        refine (HLC.out W).mono ?_
        rintro e w3 ⟨rfl, hb3⟩
        have HQ3 := Lib.hid (psBelow HQQ.out hb3)
        clear hb3 k0 k1 k2 HG
        go_wp2_with fail
        obtain ⟨n1, hn1, l1, c1, he1⟩ := body_cells (HBB.out _ _ HQ3.out) HL2.out HX1.out oL oX1 HL0.out (s := s1) (by have := HLB.out; omega)
        have i0 : (0 : Int) ≤ (s1 : Int) := by omega
        have i1 : (s1 : Int) < (nl : Int) := by have := HLB.out; omega
        have cb1 := codeAt_bd L s1
        have HQ3d := Lib.hid (psBelow HQ3.out ((Below.refl w3.heap.size w3).drew))
        refine wp_region_still_tail 9 (by kernel_rfl) (by kernel_rfl) ?_
        simp only [List.take_succ_cons, List.take_zero, List.drop_succ_cons, List.drop_zero]
        repeat still_step
        refine wpStill_nil ?_
        change wpList _ _ _ _ _ (World.drew _)
        go_wp2_with fail
        refine (emit_any W w3.drew HQ3d.out cb1.1 cb1.2 (by omega) (by omega)).mono ?_
        rintro e w4 ⟨rfl, hq4⟩
        have HQ4 := Lib.hid hq4
        clear hq4 l1 c1 i0 i1
        have v1b : v1 < 32 := by have h1 := HLB.out.2.2.2; have h2 := HLB.out.2.2.1; have : 2 ^ m1 ≤ 2 ^ 5 := Nat.pow_le_pow_right (by omega) h2; omega
        have v1w : IntKind.u32.wrap (v1 : Int) = (v1 : Int) := IntWalk.u32_in _ (by omega)
        go_wp2_with fail
        refine (putPs (n := m1) W w4 HQ4.out (by omega) (by omega) (by have := HLB.out; omega) (by rw [List.length_append, emitV_len]; have := HLB.out; omega)).mono ?_
        rintro e w5 ⟨rfl, hq5⟩
        have HQ5 := Lib.hid hq5
        have p5 : w5.cell? ⟨wr.heap.size, 2, none⟩ = some (.int .i64 (pback : Int)) := hq5.chg.cell p0 (hof ⟨wr.heap.size, 0, none⟩ rfl)
        clear hq5 p0 v1w
        go_wp2_with fail
        refine (HDC.out w5).mono ?_
        rintro e w6 ⟨rfl, hb6⟩
        have HQ6 := Lib.hid (psBelow HQ5.out hb6)
        clear hb6 p5
        go_wp2_with fail
        obtain ⟨n2, hn2, l2, c2, he2⟩ := body_cells (HBB.out _ _ HQ6.out) HD2.out (SI.below HS2.out (Below.refl _ _) (Nat.le_refl _)) oD oX2 HD0.out (s := s2) (by have := HDB.out; omega)
        have i2 : (0 : Int) ≤ (s2 : Int) := by omega
        have i3 : (s2 : Int) < (nd : Int) := by have := HDB.out; omega
        have cb2 := codeAt_bd D s2
        have HQ6d := Lib.hid (psBelow HQ6.out ((Below.refl w6.heap.size w6).drew))
        have hl6 : (bs ++ (ps.take k).flatMap (pieceBits L D) ++ emitV (codeAt L s1) n1 ++ putV false (v1 : Int) m1).length + 40 ≤ 281474976710656 := by
          rw [List.length_append, List.length_append, emitV_len, putV_length]; have := HLB.out; omega
        refine wp_region_still_tail 9 (by kernel_rfl) (by kernel_rfl) ?_
        simp only [List.take_succ_cons, List.take_zero, List.drop_succ_cons, List.drop_zero]
        repeat still_step
        refine wpStill_nil ?_
        change wpList _ _ _ _ _ (World.drew _)
        go_wp2_with fail
        refine (emit_any W w6.drew HQ6d.out cb2.1 cb2.2 (by omega) (by omega)).mono ?_
        rintro e w7 ⟨rfl, hq7⟩
        have HQ7 := Lib.hid hq7
        clear hq7 l2 c2 i2 i3
        have v2b : v2 < 8192 := by have h1 := HDB.out.2.2; have h2 := HDB.out.2.1; have : 2 ^ m2 ≤ 2 ^ 13 := Nat.pow_le_pow_right (by omega) h2; omega
        have v2w : IntKind.u32.wrap (v2 : Int) = (v2 : Int) := IntWalk.u32_in _ (by omega)
        go_wp2_with fail
        refine (putPs (n := m2) W w7 HQ7.out (by omega) (by omega) (by have := HDB.out; omega) (by rw [List.length_append, emitV_len]; have := HDB.out; omega)).mono ?_
        rintro e w8 ⟨rfl, hq8⟩
        have HP8 : Hid (Bo w2 w8 q base A bs L D ps (k + 1)) := ⟨by
          rw [HTF.out, HPB.out, he1.out, he2.out]
          have := HBB.out _ _ hq8
          simpa only [List.append_assoc] using this⟩
        clear hq8 v2w
        go_wp2
        go_roundw
        case rel => exact ⟨k + 1, by omega, by go_num, HP8.out⟩
        case measure => simp [intOf]; omega
    · obtain rfl : k = np := by omega
      have hch := HPs.out.chg
      have HALL : Hid (Ps w2 wr q base A (bs ++ ps.flatMap (pieceBits L D)) false) := by
        show Ps _ _ _ _ _ _ _
        have := HPs.out
        rwa [List.take_of_length_le (by have := HPP.out.len; omega)] at this
      have hd : decide ((k : Int) < (k : Int)) = false := by simp
      obtain ⟨n, hn, l1, c1, he⟩ := body_cells HALL.out HL2.out HX1.out oL oX1 HL0.out (s := 256) (by omega)
      have HAD := Lib.hid (psBelow HALL.out ((Below.refl wr.heap.size wr).drew))
      have hla : (bs ++ ps.flatMap (pieceBits L D)).length + 64 ≤ 281474976710656 := by
        rwa [List.take_of_length_le (by have := HPP.out.len; omega)] at hlk
      have i0 : (0 : Int) ≤ (256 : Int) := by omega
      have i1 : (256 : Int) < (nl : Int) := by omega
      have cb := codeAt_bd L 256
      clear hch
      go_wp2_with fail
      refine wp_region_still_tail 7 (by kernel_rfl) (by kernel_rfl) ?_
      simp only [List.take_succ_cons, List.take_zero, List.drop_succ_cons, List.drop_zero]
      repeat still_step
      refine wpStill_nil ?_
      change wpList _ _ _ _ _ (World.drew _)
      go_wp2_with fail
      refine (emit_any w2 wr.drew HAD.out cb.1 cb.2 (by omega) (by omega)).mono ?_
      rintro e w3 ⟨rfl, hp3⟩
      have HP3 : Hid (Ps w2 w3 q base A (bs ++ bodyBits L D ps) false) := by
        show Ps _ _ _ _ _ _ _
        unfold bodyBits
        rw [he.out, ← List.append_assoc]; exact hp3
      have HF : Hid (Ps w w3 q base A (bs ++ bodyBits L D ps) false) := by
        show Ps _ _ _ _ _ _ _
        obtain ⟨⟨A2, c2, B2, hW2, ho2⟩, hC2⟩ := HP3.out
        exact Ps.step (Chg.of_below HB.out) (.inl rfl) hW2 hC2 ho2
      clear hp3 l1 c1 i0 i1
      go_wp2
      go_end0
      exact ⟨rfl, HF.out⟩
end Go.Proofs.YtmgbjgjlddifaaaGreat.Def
