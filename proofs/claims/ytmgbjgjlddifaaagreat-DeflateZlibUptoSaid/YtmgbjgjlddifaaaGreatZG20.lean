/-
  Walks: deflate's dynamic.
-/
import Derived.Test.YtmgbjgjlddifaaaGreatZG19
set_option linter.unusedVariables false
set_option linter.unusedSimpArgs false
namespace Go.Proofs.YtmgbjgjlddifaaaGreat.Def
open Go.RowKit K Bits Wrt Pfx Bak Lst LawB Cat

def ordN : List Nat := [16, 17, 18, 0, 8, 7, 9, 6, 10, 5, 11, 4, 12, 3, 13, 2, 14, 1, 15]
def ordA : Array Value := #[.int .i64 16, .int .i64 17, .int .i64 18, .int .i64 0, .int .i64 8, .int .i64 7, .int .i64 9, .int .i64 6, .int .i64 10, .int .i64 5, .int .i64 11, .int .i64 4, .int .i64 12, .int .i64 3, .int .i64 13, .int .i64 2, .int .i64 14, .int .i64 1, .int .i64 15]
theorem ord_ix {k : Nat} (hk : k < 19) (w : World) : (Instr.index 94 (.agg ordA) (.int .i64 (k : Int))).run Tryz.prog w = .ok (.int .i64 ((ordN.getD k 0 : Nat) : Int)) w := by
  have : k = 0 ∨ k = 1 ∨ k = 2 ∨ k = 3 ∨ k = 4 ∨ k = 5 ∨ k = 6 ∨ k = 7 ∨ k = 8 ∨ k = 9 ∨ k = 10 ∨ k = 11 ∨ k = 12 ∨ k = 13 ∨ k = 14 ∨ k = 15 ∨ k = 16 ∨ k = 17 ∨ k = 18 := by omega
  rcases this with rfl | rfl | rfl | rfl | rfl | rfl | rfl | rfl | rfl | rfl | rfl | rfl | rfl | rfl | rfl | rfl | rfl | rfl | rfl <;> (show _ = _; kernel_rfl)
theorem ordN_lt {k : Nat} : ordN.getD k 0 < 19 := by
  have h : ∀ x ∈ ordN, x < 19 := by decide
  rcases Nat.lt_or_ge k ordN.length with hk | hk
  · rw [List.getD_eq_getElem?_getD, List.getElem?_eq_getElem hk]; exact h _ (List.getElem_mem hk)
  · rw [List.getD_eq_getElem?_getD, List.getElem?_eq_none hk]; simp
theorem ordN_get {k : Nat} (hk : k < 19) : ordN[k]? = some (ordN.getD k 0) := by
  rw [List.getD_eq_getElem?_getD, List.getElem?_eq_getElem (by exact hk)]; rfl
def headBits (O : List Int) : List Int := ordN.flatMap (fun k => putV false (O.getD k 0) 3)
def rowBits (O row : List Int) : List Int := row.flatMap (fun l => codeBits O l.toNat)
def dynBits (L D O : List Int) (ps : List Pc) : List Int := putV false 29 5 ++ putV false 29 5 ++ putV false 15 4 ++ headBits O ++ rowBits O (L ++ D) ++ bodyBits L D ps
def cntR (row : List Int) (k j : Nat) : Nat := (row.take k).count (j : Int)
def rowL (row : List Int) : List Int := (List.range 19).map (fun j => ((cntR row row.length j : Nat) : Int))
theorem cntR_succ {row : List Int} {k n : Nat} (h : row[k]? = some (n : Int)) (j : Nat) : cntR row (k+1) j = cntR row k j + if n = j then 1 else 0 := by
  unfold cntR
  rw [take_snoc h, List.count_append, List.count_singleton]
  simp only [beq_iff_eq]
  by_cases e : n = j
  · rw [if_pos e, if_pos (by omega)]
  · rw [if_neg e, if_neg (by omega)]
theorem cntR_le (row : List Int) (k j : Nat) : cntR row k j ≤ k := by
  unfold cntR
  have h1 : (row.take k).count (j : Int) ≤ (row.take k).length := List.count_le_length
  rw [List.length_take] at h1
  omega
theorem off_lo {w : World} {q base : Nat} {A X : Option Addr} {c : Nat} {B bs : List Int} {up : Bool} (h : Wt w q base A c B bs up) (hX : ∀ b o s, X = some ⟨b, o, s⟩ → w.heap.size ≤ b) : Off X (WS q A) := fun a e hs => by
  have h3 := hX a.block a.off a.spot e
  have h1 := h.apart
  have h2 := h.hi
  rcases hs with hs | hs
  · omega
  · have := (h.own.lt a.block (by rw [own_eq]; exact hs)).2
    omega
theorem cat_two {A1 A2 : Option Addr} {n1 c1 n2 c2 : Nat} {L D : List Int} (w : World) (T : TypeId) (h1 : SI w .i64 A1 n1 L) (h2 : SI w .i64 A2 n2 D) (b1 : n1 ≤ 4096) (b2 : n2 ≤ 4096) :
    Calls Tryz.prog 38 #[.slice (some ⟨w.heap.size, 0, none⟩) 2 2] (w.alloc (.cells #[.slice A1 n1 c1, .slice A2 n2 c2] T))
      fun e w' => ∃ A c, e = .returned (.slice A (n1 + n2) c) ∧ SI w' .i64 A (n1 + n2) (L ++ D) ∧ Below w.heap.size w w' ∧ ∀ b o s, A = some ⟨b, o, s⟩ → w.heap.size ≤ b := by
  have hps := concatIN (ps := [⟨A1, n1, c1, L⟩, ⟨A2, n2, c2, D⟩]) (c := 2) (w.alloc (.cells #[.slice A1 n1 c1, .slice A2 n2 c2] T)) (A := some ⟨w.heap.size, 0, none⟩) (m := 2)
    (Cat.Sl.lits w [.slice A1 n1 c1, .slice A2 n2 c2] T) rfl
    (fun p hp => by
      simp only [List.mem_cons, List.not_mem_nil, or_false] at hp
      rcases hp with rfl | rfl
      · exact h1.alloc _
      · exact h2.alloc _) (by show n1 + (n2 + 0) ≤ _; omega) (by omega)
  refine hps.mono ?_
  rintro e w' ⟨A, c, rfl, ho, hb⟩
  have e1 : (List.map (fun x : Prt => x.n) [⟨A1, n1, c1, L⟩, ⟨A2, n2, c2, D⟩]).sum = n1 + n2 := rfl
  have e2 : List.flatMap (fun x : Prt => x.l) [⟨A1, n1, c1, L⟩, ⟨A2, n2, c2, D⟩] = L ++ D := by simp
  rw [e1, e2] at ho
  rw [e1]
  refine ⟨A, c, rfl, SI.of_own ho (by show _ * 8 ≤ _; omega), ((Below.refl _ _).alloc (Nat.le_refl _) _).trans (hb.mono (by simp)), fun b o s hA => ?_⟩
  subst hA
  have := ho.lt b (by rfl)
  simp at this
  omega
structure DynP (w w' : World) (q base : Nat) (A : Option Addr) (bs : List Int) (ps : List Pc) (L D O : List Int) : Prop where
  l : GoodC (litsL ps) 15 L
  d : GoodC (distsL ps) 15 D
  o : GoodC (rowL (L ++ D)) 7 O
  ps : Ps w w' q base A (bs ++ dynBits L D O ps) false
def DynPost (w : World) (q base : Nat) (A : Option Addr) (bs : List Int) (ps : List Pc) (e : Ending) (w' : World) : Prop := e = .returned (.tuple #[]) ∧ ∃ L D O, DynP w w' q base A bs ps L D O
theorem good_el {l L : List Int} {mo k : Nat} (h : GoodC l mo L) (hk : k < l.length) : ∃ n : Nat, n ≤ mo ∧ L[k]? = some (n : Int) := by
  have hx : L[k]? = some (L[k]'(by rw [h.len]; exact hk)) := List.getElem?_eq_getElem (by rw [h.len]; exact hk)
  have := h.fit k hk
  rw [getD_of hx] at this
  obtain ⟨n, hn⟩ := Int.eq_ofNat_of_zero_le this.1
  exact ⟨n, by omega, by rw [hx, hn]⟩
theorem litsL_len (ps : List Pc) : (litsL ps).length = 286 := by simp [litsL]
theorem distsL_len (ps : List Pc) : (distsL ps).length = 30 := by simp [distsL]
theorem row_el {ps : List Pc} {L D : List Int} (hL : GoodC (litsL ps) 15 L) (hD : GoodC (distsL ps) 15 D) {k : Nat} (hk : k < 316) : ∃ n : Nat, n ≤ 15 ∧ (L ++ D)[k]? = some (n : Int) := by
  have h1 := hL.len
  rw [litsL_len] at h1
  by_cases h : k < 286
  · obtain ⟨n, h2, h3⟩ := good_el hL (by rw [litsL_len]; exact h)
    exact ⟨n, h2, by rw [List.getElem?_append_left (by omega)]; exact h3⟩
  · obtain ⟨n, h2, h3⟩ := good_el hD (k := k - 286) (by rw [distsL_len]; omega)
    exact ⟨n, h2, by rw [List.getElem?_append_right (by omega), h1]; exact h3⟩
theorem off_step {X A A2 : Option Addr} {q m : Nat} (h : Off X (WS q A)) (ho : own A2 = own A ∨ ∀ b, own A2 = some b → m ≤ b) (hX : ∀ a, X = some a → a.block < m) : Off X (WS q A2) := fun a e hs => by
  have h1 := h a e
  have h2 := hX a e
  rcases hs with hs | hs
  · exact h1 (.inl hs)
  · rcases ho with e2 | e2
    · exact h1 (.inr (by rw [← e2]; exact hs))
    · have := e2 _ hs; omega
theorem si_lt {w : World} {k : IntKind} {A : Option Addr} {n : Nat} {l : List Int} (h : SI w k A n l) (hn : 0 < n) : ∀ a, A = some a → a.block < w.heap.size := fun a e => by
  obtain ⟨b, o, x, e2, -, -, hb⟩ := h.cells (i := 0) hn
  rw [e2] at e
  injection e with e
  subst e
  exact hb
theorem sp_lt {w : World} {A : Option Addr} {n : Nat} {l : List Pc} (h : SP w A n l) (hn : 0 < n) : ∀ a, A = some a → a.block < w.heap.size := fun a e => by
  obtain ⟨b, o, p, e2, -, -, -, -, hb⟩ := h.cells (i := 0) hn
  rw [e2] at e
  injection e with e
  subst e
  exact hb
/-- what dynamic's loops keep -/
structure Dn (w wr : World) (q base : Nat) (A : Option Addr) (bs : List Int) : Prop where
  ps : Ps w wr q base A bs false
theorem head_snoc (O : List Int) {k : Nat} (hk : k < 19) : (ordN.take (k+1)).flatMap (fun k => putV false (O.getD k 0) 3) = (ordN.take k).flatMap (fun k => putV false (O.getD k 0) 3) ++ putV false (O.getD (ordN.getD k 0) 0) 3 := by
  rw [take_snoc (ordN_get hk), List.flatMap_append]; simp
theorem rowBits_snoc (O : List Int) {row : List Int} {k n : Nat} (h : row[k]? = some (n : Int)) : rowBits O (row.take (k+1)) = rowBits O (row.take k) ++ codeBits O n := by
  unfold rowBits
  rw [take_snoc h, List.flatMap_append]; simp
theorem rowBits_len {O : List Int} (hO : checkedOf O = 0) : ∀ (row : List Int), (rowBits O row).length ≤ 16 * row.length := by
  intro row
  induction row with
  | nil => simp [rowBits]
  | cons x row ih =>
    unfold rowBits at ih ⊢
    rw [List.flatMap_cons, List.length_append, codeBits_len, List.length_cons]
    have := len16 hO x.toNat
    omega
theorem head_len (O : List Int) : ∀ (l : List Nat), (l.flatMap (fun k => putV false (O.getD k 0) 3)).length = 3 * l.length := by
  intro l
  induction l with
  | nil => rfl
  | cons x l ih => rw [List.flatMap_cons, List.length_append, ih, putV_length, List.length_cons]; omega
/-- the counts of the row, in block b -/
structure Rw (w wr : World) (b : Nat) (row : List Int) (k : Nat) : Prop where
  bel : Below w.heap.size w wr
  row : wr.rowIs b 3 19 (fun j => .int .i64 (cntR row k j))
  lo : w.heap.size ≤ b
set_option maxRecDepth 20000 in
set_option maxHeartbeats 8000000 in
theorem dynamic_any {q base : Nat} {A AP : Option Addr} {c np cp : Nat} {B bs : List Int} {ps : List Pc} (w : World) (HW : Wt w q base A c B bs false) (HP : SP w AP np ps) (oP : Off AP (WS q A)) (lP : ∀ a, AP = some a → a.block < w.heap.size) (hps : GoodPs ps) (hbig : bs.length + 64 * np + 8192 ≤ 281474976710656) :
    Calls Tryz.prog 21 #[.pointer (some ⟨q, 0, none⟩), .slice AP np cp] w (DynPost w q base A bs ps) := by
  have hmk : ∀ w, (Instr.makeSlice 43 (.int .i64 19) (.int .i64 19)).run Tryz.prog w = .ok (.slice (some ⟨w.heap.size, 0, none⟩) 19 19) (w.alloc (.cells (madeCells #[.int .i64 0] 19) 3)) :=
    fun w => run_make_row' (P := Tryz.prog) 43 3 (.int .i64 0) 8 Tryz.underlying43 Cat.infoInt rfl .i64 .i64 19 (by omega) (by omega) w
  have HWW := Lib.hid HW
  have HPP := Lib.hid HP
  have HGP := Lib.hid hps
  have HLP0 := Lib.hid lP
  have hsz := HP.sz
  clear HW HP hps lP
  go_enter Tryz.func21, Tryz.ntmps21
  go_wp2_with fail
  refine (counted_any w HPP.out HGP.out).mono ?_
  rintro e w1 ⟨XL, cl, XD, cd, rfl, h1⟩
  have HCP := Lib.hid h1
  obtain ⟨L, hsL, hgL⟩ := h1.exL
  obtain ⟨D, hsD, hgD⟩ := h1.exD
  have HSL := Lib.hid hsL
  have HSD := Lib.hid hsD
  have HGL := Lib.hid hgL
  have HGD := Lib.hid hgD
  clear h1 hsL hsD hgL hgD
  go_wp2_with fail
  refine (cat_two w1 _ HSL.out HSD.out (by omega) (by omega)).mono ?_
  rintro e w2 ⟨XR, cr, rfl, hsR, hb2, hloR⟩
  have HSR : Hid (SI w2 .i64 XR 316 (L ++ D)) := hsR
  have HB2 := Lib.hid hb2
  have HLR := Lib.hid hloR
  clear hsR hb2 hloR
  have HRS : Hid (Rw w2 (w2.alloc (.cells (madeCells #[.int .i64 0] 19) 3)) w2.heap.size (L ++ D) 0) := ⟨(Below.refl _ _).alloc (Nat.le_refl _) _, (made0 w2 19).congr (fun j hj => by unfold cntR; simp), Nat.le_refl _⟩
  go_wp2_with fail
  clear hmk
  generalize w2.alloc (.cells (madeCells #[.int .i64 0] 19) 3) = W3 at HRS ⊢
  generalize hbk : w2.heap.size = bk at HRS ⊢
  have hz2 : w2.heap.size ≤ bk := by omega
  clear hbk
  go_loopw [9, 30] (fun _ si wr => ∃ k : Nat, k ≤ 316 ∧ si = .int .i64 k ∧ Rw w2 wr bk (L ++ D) k) (fun _ si _ => 316 - (intOf si).toNat)
  case atStart => exact ⟨0, by omega, rfl, HRS.out⟩
  case round =>
    clear HRS
    obtain ⟨k, hk, rfl, hR⟩ := hrel
    have HR := Lib.hid hR
    clear hR
    by_cases hkn : k < 316
    · obtain ⟨br, ofr, x, rfl, l0, hx, hbl⟩ := HSR.out.cells (i := k) hkn
      obtain ⟨n, hn, hrx⟩ := row_el HGL.out HGD.out hkn
      obtain rfl : x = (n : Int) := by have := hx.out; rw [hrx] at this; injection this with this; exact this.symm
      have HRX := Lib.hid hrx
      have l1 := (HR.out.bel.cell (p := ⟨br, ofr + k, none⟩) hbl).trans l0
      have c0 := HR.out.row.cell (i := n) (by omega)
      have c1 := HR.out.row.frozen n
      have hc := cntR_le (L ++ D) k n
      have i0 : (0 : Int) ≤ (n : Int) := by omega
      have i1 : (n : Int) < 19 := by omega
      have hd : decide ((k : Int) < 316) = true := decide_eq_true (by omega)
      have HN : Hid (Rw w2 (wr.setCell ⟨bk, n, none⟩ (.int .i64 ((cntR (L ++ D) k n : Int) + 1))) bk (L ++ D) (k + 1)) := ⟨HR.out.bel.setCell (by exact hz2) _, (HR.out.row.set n _).congr (fun j hj => by
        rw [cntR_succ hrx]
        by_cases e : j = n
        · rw [if_pos e, if_pos e.symm, e]; push_cast; rfl
        · rw [if_neg e, if_neg (fun h => e h.symm)]; simp), HR.out.lo⟩
      clear hrx hx l0
      go_wp2
      go_roundw
      case rel => exact ⟨k + 1, by omega, by go_num, HN.out⟩
      case measure => simp [intOf]; omega
    · obtain rfl : k = 316 := by omega
      have hrl : (L ++ D).length = 316 := by rw [List.length_append, HGL.out.len, HGD.out.len, litsL_len, distsL_len]
      have HSC : Hid (SI wr .i64 (some ⟨bk, 0, none⟩) 19 (rowL (L ++ D))) := by
        have := SI.of_row HR.out.row (by show _ * 8 ≤ _; omega)
        unfold rowL; rw [hrl]; exact this
      have HVC : Hid ((rowL (L ++ D)).any heavyC = false) := not_heavy (m := 316) (by omega) (fun j => by have := cntR_le (L ++ D) (L ++ D).length j; omega)
      have HB0 := Lib.hid (HCP.out.bel.trans (HB2.out.mono HCP.out.bel.size))
      have HB3 := Lib.hid (HB0.out.trans (HR.out.bel.mono HB0.out.size))
      have hz3 := HB0.out.size
      clear hrl
      go_wp2_with fail
      refine (build_good (mo := 7) wr HSC.out (by omega) (by omega) (by omega) HVC.out (by omega)).mono ?_
      rintro e w4 ⟨XO, cO, rfl, h4⟩
      have HB4 := Lib.hid h4
      obtain ⟨O, hsO, hgO⟩ := h4.ex
      have HSO := Lib.hid hsO
      have HGO := Lib.hid hgO
      clear h4 hsO hgO
      go_wp2_with fail
      refine (codes_si w4 HSO.out HGO.out.chk).mono ?_
      rintro e w5 ⟨XC, hxc, hxc', rfl, hsC, hb5⟩
      have HSC5 := Lib.hid hsC
      have HB5 := Lib.hid hb5
      clear hsC hb5
      have HBW := Lib.hid (HB3.out.trans ((HB4.out.bel.trans (HB5.out.mono HB4.out.bel.size)).mono HB3.out.size))
      have HPS : Hid (Ps w5 w5 q base A bs false) := ⟨⟨A, c, B, wt_below HWW.out HBW.out, .inl rfl⟩, Chg.refl _ _⟩
      have HB25 := Lib.hid (HR.out.bel.trans ((HB4.out.bel.trans (HB5.out.mono HB4.out.bel.size)).mono HR.out.bel.size))
      have HB15 := Lib.hid (HB2.out.trans (HB25.out.mono HB2.out.size))
      have HSO5 := Lib.hid (HSO.out.below HB5.out (Nat.le_refl _))
      have HSR5 := Lib.hid (HSR.out.below HB25.out (Nat.le_refl _))
      have HSL5 := Lib.hid (HSL.out.below HB15.out (Nat.le_refl _))
      have HSD5 := Lib.hid (HSD.out.below HB15.out (Nat.le_refl _))
      have HPP5 := Lib.hid (HPP.out.below HBW.out (Nat.le_refl _))
      have oXO : Off XO (WS q A) := off_lo HWW.out (fun b o s h => Nat.le_trans HB3.out.size (HB4.out.lo b o s h))
      have oXR : Off XR (WS q A) := off_lo HWW.out (fun b o s h => Nat.le_trans HCP.out.bel.size (HLR.out b o s h))
      have oXL : Off XL (WS q A) := off_lo HWW.out (fun b o s h => HCP.out.ll b o s h)
      have oXD : Off XD (WS q A) := off_lo HWW.out (fun b o s h => HCP.out.ld b o s h)
      have oXC : Off (some ⟨XC, 0, none⟩) (WS q A) := off_new HWW.out (Nat.le_trans (Nat.le_trans HB3.out.size HB4.out.bel.size) hxc)
      obtain ⟨bo, ofo, -, rfl, -, -, -⟩ := HSO5.out.cells (i := 0) (by omega)
      have HLP : Hid (∀ a, AP = some a → a.block < w5.heap.size) := fun a e => Nat.lt_of_lt_of_le (HLP0.out a e) HBW.out.size
      clear HSC HVC HR HB4 HB5 HSO HSR HSL HSD HLR
      go_wp2_with fail
      refine (putPs (n := 5) w5 w5 HPS.out (by omega) (by omega) (by omega) (by omega)).mono ?_
      rintro e w6 ⟨rfl, hp6⟩
      have HP6 := Lib.hid hp6
      clear hp6
      go_wp2_with fail
      refine (putPs (n := 5) w5 w6 HP6.out (by omega) (by omega) (by omega) (by rw [List.length_append, putV_length]; omega)).mono ?_
      rintro e w7 ⟨rfl, hp7⟩
      have HP7 := Lib.hid hp7
      clear hp7
      go_wp2_with fail
      refine (putPs (n := 4) w5 w7 HP7.out (by omega) (by omega) (by omega) (by rw [List.length_append, List.length_append]; simp only [putV_length]; omega)).mono ?_
      rintro e w8 ⟨rfl, hp8⟩
      have HP8 : Hid (Dn w5 w8 q base A (bs ++ putV false 29 5 ++ putV false 29 5 ++ putV false 15 4)) := ⟨hp8⟩
      clear hp8
      obtain ⟨b3, hb3⟩ : ∃ b3, b3 = bs ++ putV false 29 5 ++ putV false 29 5 ++ putV false 15 4 := ⟨_, rfl⟩
      have hl3 : b3.length = bs.length + 14 := by rw [hb3]; simp only [List.length_append, putV_length]
      rw [← hb3] at HP8
      have HE3 := Lib.hid hb3
      clear hb3 HP6 HP7 HPS
      go_wp2_with fail
      go_loopw [15, 66] (fun _ si wq => ∃ k : Nat, k ≤ 19 ∧ si = .int .i64 k ∧ Dn w5 wq q base A (b3 ++ (ordN.take k).flatMap (fun k => putV false (O.getD k 0) 3))) (fun _ si _ => 19 - (intOf si).toNat)
      case atStart => exact ⟨0, by omega, rfl, by simpa using HP8.out⟩
      case round =>
        clear HP8
        obtain ⟨k, hk2, rfl, hD⟩ := hrel
        have HDn := Lib.hid hD
        clear hD
        by_cases hk3 : k < 19
        · have HSN := Lib.hid (head_snoc O hk3)
          have hix : ∀ w, (Instr.index 94 (.agg #[.int .i64 16, .int .i64 17, .int .i64 18, .int .i64 0, .int .i64 8, .int .i64 7, .int .i64 9, .int .i64 6, .int .i64 10, .int .i64 5, .int .i64 11, .int .i64 4, .int .i64 12, .int .i64 3, .int .i64 13, .int .i64 2, .int .i64 14, .int .i64 1, .int .i64 15]) (.int .i64 (k : Int))).run Tryz.prog w = .ok (.int .i64 ((ordN.getD k 0 : Nat) : Int)) w := fun w => ord_ix hk3 w
          have hol := ordN_lt (k := k)
          generalize ordN.getD k 0 = o at hix hol HSN
          obtain ⟨b1, o1, x, e1, l0, hx, -⟩ := (SI.chg HSO5.out HDn.out.ps.chg oXO).cells (i := o) hol
          injection e1 with e1; injection e1 with q1 q2
          subst q1 q2
          obtain ⟨n, hn, hon⟩ := good_el HGO.out (k := o) (by simp [rowL]; omega)
          obtain rfl : x = (n : Int) := by have := hx.out; rw [hon] at this; injection this with this; exact this.symm
          have HON := Lib.hid (getD_of hon 0)
          have i0 : (0 : Int) ≤ (o : Int) := by omega
          have i1 : (o : Int) < 19 := by omega
          have hd : decide ((k : Int) < 19) = true := decide_eq_true (by omega)
          have hw : IntKind.u32.wrap (n : Int) = (n : Int) := IntWalk.u32_in _ (by omega)
          have hlb : (b3 ++ (ordN.take k).flatMap (fun k => putV false (O.getD k 0) 3)).length + 3 ≤ 281474976710656 := by
            rw [List.length_append, head_len, List.length_take]; omega
          have HIX := Lib.hid hix
          clear hon hx hix
          go_wp2_with fail
          rw [HIX.out]
          go_wp2_with fail
          refine (putPs (n := 3) w5 wr HDn.out.ps (by omega) (by omega) (by omega) hlb).mono ?_
          rintro e w9 ⟨rfl, hp9⟩
          have HP9 : Hid (Dn w5 w9 q base A (b3 ++ (ordN.take (k+1)).flatMap (fun k => putV false (O.getD k 0) 3))) := ⟨by rw [HSN.out, HON.out, ← List.append_assoc]; exact hp9⟩
          clear hp9 HIX hw
          go_wp2
          go_roundw
          case rel => exact ⟨k + 1, by omega, by go_num, HP9.out⟩
          case measure => simp [intOf]; omega
        · obtain rfl : k = 19 := by omega
          have HQ0 : Hid (Dn w5 wr q base A (b3 ++ headBits O ++ rowBits O ((L ++ D).take 0))) := by
            show Dn _ _ _ _ _ _
            have := HDn.out
            rw [show ordN.take 19 = ordN from rfl] at this
            simpa [rowBits, headBits] using this
          have hd : decide ((19 : Int) < 19) = false := by decide
          have hhl : (headBits O).length = 57 := by unfold headBits; rw [head_len]; rfl
          have hrl : (L ++ D).length = 316 := by rw [List.length_append, HGL.out.len, HGD.out.len, litsL_len, distsL_len]
          have hb4 : ∀ k, (b3 ++ headBits O ++ rowBits O ((L ++ D).take k)).length + 64 * np + 64 ≤ 281474976710656 := fun k => by
            have := rowBits_len HGO.out.chk ((L ++ D).take k)
            rw [List.length_take, hrl] at this
            rw [List.length_append, List.length_append, hhl]; omega
          have HB4 := Lib.hid hb4
          have HRL := Lib.hid hrl
          clear HDn hhl hrl hb4
          go_wp2_with fail
          simp only [Int.cast_ofNat_Int]
          go_loopw [17, 79] (fun _ si wq => ∃ k : Nat, k ≤ 316 ∧ si = .int .i64 k ∧ Dn w5 wq q base A (b3 ++ headBits O ++ rowBits O ((L ++ D).take k))) (fun _ si _ => 316 - (intOf si).toNat)
          case atStart => exact ⟨0, by omega, rfl, HQ0.out⟩
          case round =>
            clear HQ0 hd
            obtain ⟨k, hk4, rfl, hD⟩ := hrel
            have HDn := Lib.hid hD
            have hlk := HB4.out k
            clear hD
            by_cases hk5 : k < 316
            · obtain ⟨br, ofr, x, rfl, l0, hx, hbl⟩ := (SI.chg HSR5.out HDn.out.ps.chg oXR).cells (i := k) hk5
              obtain ⟨n, hn, hrx⟩ := row_el HGL.out HGD.out hk5
              obtain rfl : x = (n : Int) := by have := hx.out; rw [hrx] at this; injection this with this; exact this.symm
              have HSN := Lib.hid (rowBits_snoc O hrx)
              obtain ⟨m, hm, l1, c1, he⟩ := body_cells HDn.out.ps HSO5.out HSC5.out oXO oXC HGO.out.chk (s := n) (by omega)
              have HDd := Lib.hid (psBelow HDn.out.ps ((Below.refl wr.heap.size wr).drew))
              have i0 : (0 : Int) ≤ (n : Int) := by omega
              have i1 : (n : Int) < 19 := by omega
              have cb := codeAt_bd O n
              have hd : decide ((k : Int) < 316) = true := decide_eq_true (by omega)
              clear hrx hx
              go_wp2_with fail
              refine wp_region_still_tail 9 (by kernel_rfl) (by kernel_rfl) ?_
              simp only [List.take_succ_cons, List.take_zero, List.drop_succ_cons, List.drop_zero]
              repeat still_step
              refine wpStill_nil ?_
              change wpList _ _ _ _ _ (World.drew _)
              go_wp2_with fail
              refine (emit_any w5 wr.drew HDd.out cb.1 cb.2 (by omega) (by omega)).mono ?_
              rintro e w9 ⟨rfl, hp9⟩
              have HP9 : Hid (Dn w5 w9 q base A (b3 ++ headBits O ++ rowBits O ((L ++ D).take (k + 1)))) := ⟨by rw [HSN.out, he.out, ← List.append_assoc]; exact hp9⟩
              clear hp9 l1 c1 l0 cb
              go_wp2
              go_roundw
              case rel => exact ⟨k + 1, by omega, by go_num, HP9.out⟩
              case measure => simp [intOf]; omega
            · obtain rfl : k = 316 := by omega
              have hd : decide ((316 : Int) < 316) = false := by decide
              obtain ⟨⟨A2, c2, B2, hW2, ho2⟩, hC2⟩ := HDn.out.ps
              have HW2 := Lib.hid hW2
              have HO2 := Lib.hid ho2
              have HC2 := Lib.hid hC2
              have HP2 := Lib.hid (HPP5.out.chg hC2 oP)
              have HL2 := Lib.hid (SI.chg HSL5.out hC2 oXL)
              have HD2 := Lib.hid (SI.chg HSD5.out hC2 oXD)
              have oP2 : Off AP (WS q A2) := off_step oP ho2 (HLP.out)
              have oL2 : Off XL (WS q A2) := off_step oXL ho2 (si_lt HSL5.out (by omega))
              have oD2 : Off XD (WS q A2) := off_step oXD ho2 (si_lt HSD5.out (by omega))
              clear hW2 ho2 hC2
              go_wp2_with fail
              refine (body_any wr HW2.out HP2.out HL2.out HD2.out oP2 oL2 oD2 HGL.out.chk HGD.out.chk (by omega) (by omega) HGP.out (by omega)).mono ?_
              rintro e w9 ⟨rfl, hp9⟩
              have HP9 := Lib.hid hp9
              clear hp9
              go_wp2
              go_end0
              refine ⟨rfl, L, D, O, HGL.out, HGD.out, HGO.out, ?_⟩
              obtain ⟨⟨A3, c3, B3, hW3, ho3⟩, hC3⟩ := HP9.out
              have h3 := Ps.step HC2.out HO2.out hW3 hC3 ho3
              obtain ⟨⟨A4, c4, B4, hW4, ho4⟩, hC4⟩ := h3
              have h5 := Ps.step (Chg.of_below HBW.out) (.inl rfl) hW4 hC4 ho4
              have e1 : b3 ++ headBits O ++ rowBits O ((L ++ D).take 316) ++ bodyBits L D ps = bs ++ dynBits L D O ps := by
                rw [HE3.out, List.take_of_length_le (by rw [HRL.out]; exact Nat.le_refl _)]
                unfold dynBits
                simp only [List.append_assoc]
              rw [← e1]; exact h5
end Go.Proofs.YtmgbjgjlddifaaaGreat.Def
