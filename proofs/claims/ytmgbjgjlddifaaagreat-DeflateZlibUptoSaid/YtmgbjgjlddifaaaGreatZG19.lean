/-
  Walks: deflate's counted: how often each symbol is met, and the best codes.
-/
import Derived.Test.YtmgbjgjlddifaaaGreatZG16
import Derived.Test.YtmgbjgjlddifaaaGreatZG18
set_option linter.unusedVariables false
set_option linter.unusedSimpArgs false
namespace Go.Proofs.YtmgbjgjlddifaaaGreat.Def
open Go.RowKit K Bits Wrt Pfx Bak Lst LawB

def symL (p : Pc) : Nat := if p.n = 0 then p.b else (lengthM p.n).1
def symD (p : Pc) : Option Nat := if p.n = 0 then none else some (distM p.back).1
def cntL (ps : List Pc) (k j : Nat) : Nat := (if j = 256 then 1 else 0) + ((ps.take k).map symL).count j
def cntD (ps : List Pc) (k j : Nat) : Nat := ((ps.take k).filterMap symD).count j
theorem cntL_succ {ps : List Pc} {k : Nat} {p : Pc} (h : ps[k]? = some p) (j : Nat) : cntL ps (k+1) j = cntL ps k j + if symL p = j then 1 else 0 := by
  unfold cntL
  rw [take_snoc h, List.map_append, List.count_append, List.map_cons, List.map_nil, List.count_singleton]
  simp only [beq_iff_eq]
  omega
theorem cntD_none {ps : List Pc} {k : Nat} {p : Pc} (h : ps[k]? = some p) (h0 : p.n = 0) (j : Nat) : cntD ps (k+1) j = cntD ps k j := by
  unfold cntD
  rw [take_snoc h, List.filterMap_append, List.filterMap_cons]
  unfold symD
  rw [if_pos h0]; simp
theorem cntD_succ {ps : List Pc} {k : Nat} {p : Pc} (h : ps[k]? = some p) (h0 : ¬ p.n = 0) (j : Nat) : cntD ps (k+1) j = cntD ps k j + if (distM p.back).1 = j then 1 else 0 := by
  unfold cntD
  have e : symD p = some (distM p.back).1 := by unfold symD; rw [if_neg h0]
  rw [take_snoc h, List.filterMap_append, List.filterMap_cons, e, List.filterMap_nil, List.count_append, List.count_singleton]
  simp only [beq_iff_eq]
theorem cntL_le (ps : List Pc) (k j : Nat) : cntL ps k j ≤ k + 1 := by
  unfold cntL
  have h1 : ((ps.take k).map symL).count j ≤ ((ps.take k).map symL).length := List.count_le_length
  rw [List.length_map, List.length_take] at h1
  split <;> omega
theorem cntD_le (ps : List Pc) (k j : Nat) : cntD ps k j ≤ k := by
  unfold cntD
  have h1 : ((ps.take k).filterMap symD).count j ≤ ((ps.take k).filterMap symD).length := List.count_le_length
  have h2 := List.length_filterMap_le symD (ps.take k)
  rw [List.length_take] at h2
  omega
/-- two rows of counts, in blocks a, b -/
structure Cw (w wr : World) (a b : Nat) (fL fD : Nat → Nat) : Prop where
  bel : Below w.heap.size w wr
  lits : wr.rowIs a 3 286 (fun j => .int .i64 (fL j))
  dists : wr.rowIs b 3 30 (fun j => .int .i64 (fD j))
  ne : a ≠ b
  la : w.heap.size ≤ a
  lb : w.heap.size ≤ b
section
variable {w wr wr2 : World} {a b : Nat} {fL fD gL gD : Nat → Nat}
theorem Cw.setL (h : Cw w wr a b fL fD) (s : Nat) (x : Int) (hx : x = (fL s : Int) + 1) : Cw w (wr.setCell ⟨a, s, none⟩ (.int .i64 x)) a b (fun j => fL j + if s = j then 1 else 0) fD := by
  refine ⟨h.bel.setCell (by exact h.la) _, (h.lits.set _ _).congr (fun j hj => ?_), h.dists.setOther (fun e => h.ne (by simpa using e.symm)) _, h.ne, h.la, h.lb⟩
  by_cases hj2 : j = s
  · rw [if_pos hj2, if_pos hj2.symm, hj2, hx]; push_cast; rfl
  · rw [if_neg hj2, if_neg (fun e => hj2 e.symm)]; simp
theorem Cw.setD (h : Cw w wr a b fL fD) (s : Nat) (x : Int) (hx : x = (fD s : Int) + 1) : Cw w (wr.setCell ⟨b, s, none⟩ (.int .i64 x)) a b fL (fun j => fD j + if s = j then 1 else 0) := by
  refine ⟨h.bel.setCell (by exact h.lb) _, h.lits.setOther (fun e => h.ne (by simpa using e)) _, (h.dists.set _ _).congr (fun j hj => ?_), h.ne, h.la, h.lb⟩
  by_cases hj2 : j = s
  · rw [if_pos hj2, if_pos hj2.symm, hj2, hx]; push_cast; rfl
  · rw [if_neg hj2, if_neg (fun e => hj2 e.symm)]; simp
theorem Cw.below (h : Cw w wr a b fL fD) (hb : Below wr.heap.size wr wr2) : Cw w wr2 a b fL fD :=
  ⟨h.bel.trans (hb.mono h.bel.size), h.lits.of_block (hb.block _ h.lits.lt), h.dists.of_block (hb.block _ h.dists.lt), h.ne, h.la, h.lb⟩
theorem Cw.congr (h : Cw w wr a b fL fD) (h1 : ∀ j, gL j = fL j) (h2 : ∀ j, gD j = fD j) : Cw w wr a b gL gD :=
  ⟨h.bel, h.lits.congr (fun j _ => by rw [h1]), h.dists.congr (fun j _ => by rw [h2]), h.ne, h.la, h.lb⟩
end
def Cn (w wr : World) (a b : Nat) (ps : List Pc) (k : Nat) : Prop := Cw w wr a b (cntL ps k) (cntD ps k)
theorem made0 (w : World) (n : Nat) : (w.alloc (.cells (madeCells #[.int .i64 0] n) 3)).rowIs w.heap.size 3 n (fun _ => .int .i64 ((0 : Nat) : Int)) := World.rowIs_made w (.int .i64 0) n 3
theorem Cw.start1 (w : World) : Cw w ((w.alloc (.cells (madeCells #[.int .i64 0] 286) 3)).alloc (.cells (madeCells #[.int .i64 0] 30) 3)).drew w.heap.size (w.heap.size + 1) (fun _ => 0) (fun _ => 0) :=
  ⟨((Below.refl _ _).alloc (Nat.le_refl _) _).alloc (by simp) _ |>.drew, ((made0 w 286).alloc _).drew, by
    have := made0 (w.alloc (.cells (madeCells #[.int .i64 0] 286) 3)) 30
    rw [World.size_alloc] at this
    exact this.drew, by omega, Nat.le_refl _, by omega⟩
theorem Cw.start2 (w : World) : Cw w ((w.alloc (.cells (madeCells #[.int .i64 0] 30) 3)).alloc (.cells (madeCells #[.int .i64 0] 286) 3)).drew (w.heap.size + 1) w.heap.size (fun _ => 0) (fun _ => 0) :=
  ⟨((Below.refl _ _).alloc (Nat.le_refl _) _).alloc (by simp) _ |>.drew, by
    have := made0 (w.alloc (.cells (madeCells #[.int .i64 0] 30) 3)) 286
    rw [World.size_alloc] at this
    exact this.drew, ((made0 w 30).alloc _).drew, by omega, by omega, Nat.le_refl _⟩
theorem Cw.first {w W : World} {a b : Nat} (ps : List Pc) (h : Cw w W a b (fun _ => 0) (fun _ => 0)) : Cn w (W.setCell ⟨a, 256, none⟩ (.int .i64 1)) a b ps 0 := by
  refine (h.setL 256 1 (by simp)).congr (fun j => ?_) (fun j => ?_)
  · unfold cntL
    simp only [List.take_zero, List.map_nil, List.count_nil, Nat.add_zero, Nat.zero_add]
    by_cases e : j = 256
    · rw [if_pos e, if_pos e.symm]
    · rw [if_neg e, if_neg (fun h => e h.symm)]
  · unfold cntD; simp
def litsL (ps : List Pc) : List Int := (List.range 286).map (fun j => ((cntL ps ps.length j : Nat) : Int))
def distsL (ps : List Pc) : List Int := (List.range 30).map (fun j => ((cntD ps ps.length j : Nat) : Int))
structure BG (w : World) (l : List Int) (mo n : Nat) (X : Option Addr) (w' : World) : Prop where
  bel : Below w.heap.size w w'
  lo : ∀ b o s, X = some ⟨b, o, s⟩ → w.heap.size ≤ b
  ex : ∃ L, SI w' .i64 X n L ∧ GoodC l mo L
def BGPost (w : World) (l : List Int) (mo n : Nat) (e : Ending) (w' : World) : Prop := ∃ X cx, e = .returned (.tuple #[.slice X n cx, .int .i64 0]) ∧ BG w l mo n X w'
theorem build_good {A : Option Addr} {n c mo : Nat} {l : List Int} (w : World) (HA : SI w .i64 A n l) (h1 : n ≤ 4096) (h2 : 1 ≤ mo) (h3 : mo ≤ 16) (h4 : l.any heavyC = false) (h5 : n ≤ 2 ^ mo) :
    Calls Tryz.prog 46 #[.slice A n c, .int .i64 mo] w (BGPost w l mo n) := by
  have hlen := HA.len
  have hp : (posL l l.length).length ≤ n := by
    unfold posL
    refine Nat.le_trans (List.length_filter_le _ _) ?_
    rw [List.length_take]; omega
  have hb : badM l mo = 0 := by
    unfold badM
    rw [if_neg (by omega), if_neg (by omega), if_neg (by rw [h4]; simp), if_neg (by rw [Int.toNat_natCast]; omega)]
  refine (build_law w HA).mono ?_
  rintro e w' ⟨er, X, nx, cx, rfl, h⟩
  have he : er = 0 := by rw [h.err, hb]
  subst he
  obtain ⟨e1, o, hs, ho, hdet⟩ := h.ok rfl
  have e2 : nx = n := by omega
  subst e2
  exact ⟨X, cx, rfl, h.bel, h.lo, _, hs, good_of ho (by rw [Int.toNat_natCast] at hdet; exact hdet)⟩
/-- what counted answers -/
structure CntP (w : World) (ps : List Pc) (XL XD : Option Addr) (w' : World) : Prop where
  bel : Below w.heap.size w w'
  ll : ∀ b o s, XL = some ⟨b, o, s⟩ → w.heap.size ≤ b
  ld : ∀ b o s, XD = some ⟨b, o, s⟩ → w.heap.size ≤ b
  exL : ∃ L, SI w' .i64 XL 286 L ∧ GoodC (litsL ps) 15 L
  exD : ∃ D, SI w' .i64 XD 30 D ∧ GoodC (distsL ps) 15 D
def CntPost (w : World) (ps : List Pc) (e : Ending) (w' : World) : Prop := ∃ XL cl XD cd, e = .returned (.tuple #[.slice XL 286 cl, .slice XD 30 cd]) ∧ CntP w ps XL XD w'
theorem not_heavy {n m : Nat} {f : Nat → Nat} (hm : m ≤ 1073741824) (h : ∀ j, f j ≤ m) : ((List.range n).map (fun j => ((f j : Nat) : Int))).any heavyC = false := by
  rw [List.any_eq_false]
  intro x hx
  rw [List.mem_map] at hx
  obtain ⟨i, -, rfl⟩ := hx
  have := h i
  rw [heavy_eq]
  simp; omega
set_option maxRecDepth 20000 in
set_option maxHeartbeats 8000000 in
theorem counted_any {AP : Option Addr} {np cp : Nat} {ps : List Pc} (w : World) (HP : SP w AP np ps) (hps : GoodPs ps) :
    Calls Tryz.prog 45 #[.slice AP np cp] w (CntPost w ps) := by
  have hm1 : ∀ w, (Instr.makeSlice 43 (.int .i64 286) (.int .i64 286)).run Tryz.prog w = .ok (.slice (some ⟨w.heap.size, 0, none⟩) 286 286) (w.alloc (.cells (madeCells #[.int .i64 0] 286) 3)) :=
    fun w => run_make_row' (P := Tryz.prog) 43 3 (.int .i64 0) 8 Tryz.underlying43 infoInt rfl .i64 .i64 286 (by omega) (by omega) w
  have hm2 : ∀ w, (Instr.makeSlice 43 (.int .i64 30) (.int .i64 30)).run Tryz.prog w = .ok (.slice (some ⟨w.heap.size, 0, none⟩) 30 30) (w.alloc (.cells (madeCells #[.int .i64 0] 30) 3)) :=
    fun w => run_make_row' (P := Tryz.prog) 43 3 (.int .i64 0) 8 Tryz.underlying43 infoInt rfl .i64 .i64 30 (by omega) (by omega) w
  have HPP := Lib.hid HP
  have HGP := Lib.hid hps
  have hsz := HP.sz
  clear HP hps
  have H1 := Lib.hid (Cw.start1 w)
  have H2 := Lib.hid (Cw.start2 w)
  go_enter Tryz.func45, Tryz.ntmps45
  go_wp2
  go_region
  clear H2 hm1 hm2
  generalize (World.drew _) = W at H1 ⊢
  generalize w.heap.size + 1 = b at H1 ⊢
  generalize w.heap.size = a at H1 ⊢
  have H := H1
  clear H1
  rotate_left
  clear H1 hm1 hm2
  generalize (World.drew _) = W at H2 ⊢
  generalize w.heap.size + 1 = a at H2 ⊢
  generalize w.heap.size = b at H2 ⊢
  have H := H2
  clear H2
  all_goals
    have k0 := H.out.lits.cell (i := 256) (by omega)
    have k1 := H.out.lits.frozen 256
    have HF := Lib.hid (H.out.first ps)
    go_wp2
    clear k0 k1
    generalize (World.setCell W _ _) = W1 at HF ⊢
    go_loopw [7, 8, 9, 10, 21] (fun _ _ _ _ si wr => ∃ k : Nat, k ≤ np ∧ si = .int .i64 k ∧ Cn w wr a b ps k) (fun _ _ _ _ si _ => np - (intOf si).toNat)
    case atStart => exact ⟨0, by omega, rfl, HF.out⟩
    case round =>
      clear HF H
      obtain ⟨k, hk, rfl, hC⟩ := hrel
      have HC := Lib.hid hC
      clear hC
      by_cases hkn : k < np
      · obtain ⟨bb, off, p, rfl, q0, q1, q2, hx, hblt⟩ := HPP.out.cells (i := k) hkn
        have k0 := (HC.out.bel.cell (p := ⟨bb, off + k * 3, none⟩) hblt).trans q0
        have k1 := (HC.out.bel.cell (p := ⟨bb, off + k * 3 + 1, none⟩) hblt).trans q1
        have k2 := (HC.out.bel.cell (p := ⟨bb, off + k * 3 + 2, none⟩) hblt).trans q2
        have hmem := List.mem_of_getElem? hx.out
        clear q0 q1 q2
        by_cases hpn : p.n = 0
        · have hb256 : p.b < 256 := by rcases HGP.out p hmem with ⟨_, h⟩ | ⟨h, _⟩ <;> omega
          have hcl := cntL_le ps k p.b
          have HCW : Hid (Cw w (wr.alloc (.cells #[.int .u8 (p.b : Int), .int .i64 (p.n : Int), .int .i64 (p.back : Int)] 77)) a b (cntL ps k) (cntD ps k)) := Cw.below HC.out ((Below.refl _ _).alloc (Nat.le_refl _) _)
          obtain ⟨pb, pn, pback⟩ := p
          simp only at hpn hb256 k0 k1 k2 hcl HCW
          subst hpn
          clear hmem
          simp only [Int.cast_ofNat_Int] at HCW k1
          have c0 := HCW.out.lits.cell (i := pb) (by omega)
          have c1 := HCW.out.lits.frozen pb
          have i0 : (0 : Int) ≤ (pb : Int) := by omega
          have i1 : (pb : Int) < 286 := by omega
          have HN : Hid (Cn w ((wr.alloc (.cells #[.int .u8 (pb : Int), .int .i64 0, .int .i64 (pback : Int)] 77)).setCell ⟨a, pb, none⟩ (.int .i64 ((cntL ps k pb : Int) + 1))) a b ps (k + 1)) :=
            (HCW.out.setL pb _ rfl).congr (fun j => by rw [cntL_succ hx.out]; rfl) (fun j => by rw [cntD_none hx.out rfl])
          go_wp2
          go_roundw
          case rel => exact ⟨k + 1, by omega, by go_num, HN.out⟩
          case measure => simp [intOf]; omega
        · obtain ⟨g1, g2, g3, g4⟩ : 3 ≤ p.n ∧ p.n ≤ 258 ∧ 1 ≤ p.back ∧ p.back ≤ 32768 := by rcases HGP.out p hmem with ⟨h, _⟩ | h; exact absurd h hpn; exact h
          have HSL : Hid (∀ j, cntL ps (k + 1) j = cntL ps k j + if (lengthM p.n).1 = j then 1 else 0) := fun j => by rw [cntL_succ hx.out]; unfold symL; rw [if_neg hpn]
          have HSD : Hid (∀ j, cntD ps (k + 1) j = cntD ps k j + if (distM p.back).1 = j then 1 else 0) := fun j => cntD_succ hx.out hpn j
          obtain ⟨pb, pn, pback⟩ := p
          simp only at g1 g2 g3 g4 hpn k0 k1 k2 HSL HSD
          have hne : ((pn : Int) == 0) = false := by simp; omega
          have HLB := Lib.hid (lengthM_bd g1 g2)
          have HDB := Lib.hid (distM_bd g3 g4)
          have HLC := Lib.hid (fun w0 => length_any (n := pn) w0 g1 g2)
          have HDC := Lib.hid (fun w0 => distance_any (n := pback) w0 g3 g4)
          generalize hLm : lengthM pn = lm at HLB HLC HSL
          generalize hDm : distM pback = dm at HDB HDC HSD
          obtain ⟨s1, v1, m1⟩ := lm
          obtain ⟨s2, v2, m2⟩ := dm
          simp only at HLB HDB HLC HDC HSL HSD
          clear hLm hDm g1 g2 g3 g4 hpn hmem
          have HCW : Hid (Cw w (wr.alloc (.cells #[.int .u8 (pb : Int), .int .i64 (pn : Int), .int .i64 (pback : Int)] 77)) a b (cntL ps k) (cntD ps k)) := Cw.below HC.out ((Below.refl _ _).alloc (Nat.le_refl _) _)
          have hal := HC.out.lits.lt
          go_wp2_with fail
          have p0 : (wr.alloc (.cells #[.int .u8 (pb : Int), .int .i64 (pn : Int), .int .i64 (pback : Int)] 77)).cell? ⟨wr.heap.size, 2, none⟩ = some (.int .i64 (pback : Int)) := by simp
          have hz0 : (wr.alloc (.cells #[.int .u8 (pb : Int), .int .i64 (pn : Int), .int .i64 (pback : Int)] 77)).heap.size = wr.heap.size + 1 := by simp
          generalize wr.alloc (.cells #[.int .u8 (pb : Int), .int .i64 (pn : Int), .int .i64 (pback : Int)] 77) = W2 at p0 HCW hz0 ⊢
          refine (HLC.out W2).mono ?_
          rintro e w3 ⟨rfl, hb3⟩
          have HC3 := Lib.hid (HCW.out.below hb3)
          have p3 : w3.cell? ⟨wr.heap.size, 2, none⟩ = some (.int .i64 (pback : Int)) := (hb3.cell (p := ⟨wr.heap.size, 2, none⟩) (by show wr.heap.size < _; omega)).trans p0
          have hz3 : wr.heap.size < w3.heap.size := by have := hb3.size; omega
          have hane : ¬ a = wr.heap.size := by omega
          clear hb3 p0 hz0 HCW k0 k1 k2
          have hs1 : s1 < 286 := by have := HLB.out; omega
          have hs2 : s2 < 30 := by have := HDB.out; omega
          have c0 := HC3.out.lits.cell (i := s1) hs1
          have c1 := HC3.out.lits.frozen s1
          have hcl := cntL_le ps k s1
          have hcd := cntD_le ps k s2
          have HN4 := Lib.hid (HC3.out.setL s1 _ rfl)
          have p4 : (w3.setCell ⟨a, s1, none⟩ (.int .i64 ((cntL ps k s1 : Int) + 1))).cell? ⟨wr.heap.size, 2, none⟩ = some (.int .i64 (pback : Int)) := by
            rw [World.cell?_setCell_other _ _ _ _ (fun e => hane (by injection e))]; exact p3
          go_wp2_with fail
          generalize (World.setCell w3 _ _) = w4 at HN4 p4 ⊢
          refine (HDC.out w4).mono ?_
          rintro e w5 ⟨rfl, hb5⟩
          have HC5 := Lib.hid (HN4.out.below hb5)
          have d0 := HC5.out.dists.cell (i := s2) hs2
          have d1 := HC5.out.dists.frozen s2
          have HN6 : Hid (Cn w (w5.setCell ⟨b, s2, none⟩ (.int .i64 ((cntD ps k s2 : Int) + 1))) a b ps (k + 1)) :=
            (HC5.out.setD s2 _ rfl).congr (fun j => by rw [HSL.out]) (fun j => by rw [HSD.out])
          clear hb5 p4 p3 c0 c1 HN4
          go_wp2
          go_roundw
          case rel => exact ⟨k + 1, by omega, by go_num, HN6.out⟩
          case measure => simp [intOf]; omega
      · obtain rfl : k = np := by omega
        have hlen := HPP.out.len
        have hd : decide ((k : Int) < (k : Int)) = false := by simp
        have HSL : Hid (SI wr .i64 (some ⟨a, 0, none⟩) 286 (litsL ps)) := by
          have := SI.of_row HC.out.lits (by show _ * 8 ≤ _; omega)
          unfold litsL; rw [hlen]; exact this
        have HSD : Hid (SI wr .i64 (some ⟨b, 0, none⟩) 30 (distsL ps)) := by
          have := SI.of_row HC.out.dists (by show _ * 8 ≤ _; omega)
          unfold distsL; rw [hlen]; exact this
        have HVL : Hid ((litsL ps).any heavyC = false) := not_heavy (m := k + 1) (by omega) (fun j => by have := cntL_le ps ps.length j; omega)
        have HVD : Hid ((distsL ps).any heavyC = false) := not_heavy (m := k) (by omega) (fun j => by have := cntD_le ps ps.length j; omega)
        clear hlen
        go_wp2_with fail
        refine (build_good (mo := 15) wr HSL.out (by omega) (by omega) (by omega) HVL.out (by omega)).mono ?_
        rintro e w1 ⟨X1, c1, rfl, h1⟩
        have HB1 := Lib.hid h1
        clear h1
        go_wp2_with fail
        refine (build_good (mo := 15) w1 (HSD.out.below HB1.out.bel (Nat.le_refl _)) (by omega) (by omega) (by omega) HVD.out (by omega)).mono ?_
        rintro e w2 ⟨X2, c2, rfl, h2⟩
        have HB2 := Lib.hid h2
        clear h2
        go_wp2
        go_ret2
        have hb0 := HC.out.bel
        have hb1 := hb0.trans (HB1.out.bel.mono hb0.size)
        refine ⟨_, _, _, _, rfl, hb1.trans (HB2.out.bel.mono hb1.size), fun b' o s h => Nat.le_trans hb0.size (HB1.out.lo b' o s h), fun b' o s h => Nat.le_trans hb1.size (HB2.out.lo b' o s h), ?_, HB2.out.ex⟩
        obtain ⟨L, hs, hg⟩ := HB1.out.ex
        exact ⟨L, hs.below HB2.out.bel (Nat.le_refl _), hg⟩
end Go.Proofs.YtmgbjgjlddifaaaGreat.Def
