/-
  The walk of the law PrefixReads: the decoder and the reference read the same symbols.
-/
import Derived.Test.YtpecemkjoklhfaaWakA
import Derived.Test.YtpecemkjoklhfaaRefX
import Derived.Deep.WholeRow
import Derived.Deep.DeepCutAuto
set_option linter.unusedVariables false
set_option linter.unusedSimpArgs false
namespace Go.Proofs.Ytpecemkjoklhfaa.LawR
open Go.RowKit K Pfx Bits Bld Wak Ref RefT RefR RefX

theorem setRow_under (w : World) (c c' : Array Value) (t : TypeId) (o : Obj) : ((w.alloc (.cells c t)).alloc o).setRow w.heap.size c' = (w.alloc (.cells c' t)).alloc o := by
  rw [← World.setRow_alloc_new w c c' t]
  simp only [World.setRow, World.alloc]
  congr 1
  apply Array.ext_getElem?
  intro i
  rw [Array.getElem?_modify]
  by_cases h : w.heap.size = i
  · subst h; simp [Array.getElem?_push, Array.getElem?_modify, Array.getElem_modify]
  · have h' : ¬ i = w.heap.size := fun e => h e.symm
    simp [h, h', Array.getElem?_push, Array.getElem?_modify]
theorem heap_two (w : World) (c : Array Value) (t : TypeId) (o : Obj) : ((w.alloc (.cells c t)).alloc o).heap[w.heap.size]? = some (.cells c t (0, 0)) := by
  rw [Below.heap_alloc _ _ _ (by simp)]
  exact heap_alloc_last w _
/-- a whole value into the block that was made last but one -/
theorem wpList_store_new {P : Program} {ops : Array Oper} {rest : List Oper} {op : Oper} {a : Act} {w : World} {Q : Exit → Act → World → Prop} (hgd : op.guard = none) (ty : TypeId) (x y : Operand) (ho : op.op = .store ty x y)
    (cells old : Array Value) (ob : Obj) (t : TypeId) (hx : a.eval x = .pointer (some ⟨w.heap.size, 0, none⟩)) (hy : a.eval y = .agg cells) (n : Nat)
    (hi : (P.info? ty).map (·.size) = some n) (hc : cells.size = n) (hold : old.size = n) (h1 : cells.all (·.oneCell') = true)
    (h : wpList P ops Q rest (a.put op.dst undef) ((w.alloc (.cells cells t)).alloc ob)) : wpList P ops Q (op :: rest) a ((w.alloc (.cells old t)).alloc ob) := by
  refine wpList_store_row hgd ty x y ho w.heap.size cells hx hy t old (heap_two w old t ob) (by rw [hi, hc]) (by rw [hold, hc]) h1 ?_
  rw [setRow_under]
  exact h
theorem grown_new {w wr : World} {row : Option Nat} (h : w.grownBy wr row) {q : Nat} (hq : w.heap.size ≤ q) (i : Nat) (v : Value) : w.grownBy (wr.setCell ⟨q, i, none⟩ v) row :=
  ⟨h.os, h.tape, h.output, by simp [World.setCell]; exact h.size, fun k hi hne => (Below.heap_setCell wr ⟨q, i, none⟩ v k (fun e => by simp at e; omega)).trans (h.block k hi hne)⟩
/-- while reading: w7 the world ahead of the reference's two blocks, p the reader -/
structure R1 (w7 wr : World) (rl : List Int) (up : Bool) (p : Nat) (Ar Ab : Option Addr) (cr cb : Nat) (tc : Array Value) (a : Nat) : Prop where
  g : w7.grownBy wr (some p)
  row : wr.rowIs p 89 4 (rdrF Ar rl.length cr a up)
  le : a ≤ 8 * rl.length
  tbl : wr.heap[w7.heap.size]? = some (.cells tc 57 (0, 0))
  rr : wr.rowIs (w7.heap.size + 1) 51 3 (rrF Ab rl.length cb a up)
section
variable {w7 wr w2 : World} {rl : List Int} {up : Bool} {p : Nat} {Ar Ab : Option Addr} {cr cb : Nat} {tc : Array Value} {a : Nat}
theorem R1.rdr (h : R1 w7 wr rl up p Ar Ab cr cb tc a) (hR : Rdr w7 p Ar cr rl 0 up) : Rdr wr p Ar cr rl a up :=
  ⟨h.row, SI.grown hR.data h.g hR.apart, hR.apart, h.le, hR.wf⟩
theorem R1.lt (h : R1 w7 wr rl up p Ar Ab cr cb tc a) : w7.heap.size + 1 < wr.heap.size := h.rr.lt
/-- behind the decoder's Next -/
theorem R1.next (h : R1 w7 wr rl up p Ar Ab cr cb tc a) (hp : p < w7.heap.size) (hg : wr.grownBy w2 (some p)) : w7.grownBy w2 (some p) ∧ w2.heap[w7.heap.size]? = some (.cells tc 57 (0, 0)) ∧ w2.rowIs (w7.heap.size + 1) 51 3 (rrF Ab rl.length cb a up) := by
  have hl := h.lt
  refine ⟨grown_trans h.g hg, ?_, ?_⟩
  · rw [hg.block _ (by omega) (fun e => by injection e with e; omega)]; exact h.tbl
  · exact h.rr.of_block (hg.block _ (by omega) (fun e => by injection e with e; omega))
theorem R1.after {w8 w9 : World} {b : Nat} (g8 : w7.grownBy w8 (some p)) (row8 : w8.rowIs p 89 4 (rdrF Ar rl.length cr b up)) (hb : b ≤ 8 * rl.length) (t8 : w8.heap[w7.heap.size]? = some (.cells tc 57 (0, 0)))
    (r8 : w8.rowIs (w7.heap.size + 1) 51 3 (rrF Ab rl.length cb a up)) (hb9 : Below w8.heap.size w8 w9) (hp : p < w7.heap.size) :
    ∃ W, W = (((w9.setCell ⟨w7.heap.size + 1, 0, none⟩ (.slice Ab rl.length cb)).setCell ⟨w7.heap.size + 1, 1, none⟩ (.bool up)).setCell ⟨w7.heap.size + 1, 2, none⟩ (.int .i64 b)) ∧ R1 w7 W rl up p Ar Ab cr cb tc b := by
  have hl := r8.lt
  refine ⟨_, rfl, grown_new (grown_new (grown_new (grown_trans g8 (grown_below hb9 _)) (by omega) _ _) (by omega) _ _) (by omega) _ _, ?_, hb, ?_, ?_⟩
  · exact (((row8.of_block (hb9.block _ (by omega))).setOther (by simp; omega) _).setOther (by simp; omega) _).setOther (by simp; omega) _
  · rw [Below.heap_setCell _ _ _ _ (by simp), Below.heap_setCell _ _ _ _ (by simp), Below.heap_setCell _ _ _ _ (by simp), hb9.block _ (by omega)]; exact t8
  · exact ((((r8.of_block (hb9.block _ (by omega))).set 0 (.slice Ab rl.length cb)).set 1 (.bool up)).set 2 (.int .i64 b)).congr (fun j hj => by
      have : j = 0 ∨ j = 1 ∨ j = 2 := by omega
      rcases this with rfl | rfl | rfl <;> rfl)
theorem R1.alloc (h : R1 w7 wr rl up p Ar Ab cr cb tc a) (hp : p < w7.heap.size) (o : Obj) : R1 w7 (wr.alloc o) rl up p Ar Ab cr cb tc a :=
  have hl := h.lt
  ⟨grown_alloc h.g o, h.row.alloc o, h.le, by rw [Below.heap_alloc _ _ _ (by omega)]; exact h.tbl, h.rr.alloc o⟩
theorem R1.drewN (h : R1 w7 wr rl up p Ar Ab cr cb tc a) (k : Nat) : R1 w7 (wr.drewN k) rl up p Ar Ab cr cb tc a := ⟨grown_drewN h.g k, h.row.of_block rfl, h.le, h.tbl, h.rr.of_block rfl⟩
end
theorem Rdr.keepL {w w' : World} {p A c l at_ up} (h : Rdr w p A c l at_ up) (hb : Below w.heap.size w w') : Rdr w' p A c l at_ up := ⟨h.row.of_block (hb.block _ h.row.lt), h.data.below hb (Nat.le_refl _), h.apart, h.le, h.wf⟩
def LawPost (w : World) (e : Ending) (w' : World) : Prop := e = .returned (.bool true) ∧ Below w.heap.size w w'
set_option maxRecDepth 20000 in
set_option maxHeartbeats 4000000 in
theorem prefixReads_any {A Ab : Option Addr} {n c nb cb : Nat} {l rl : List Int} {up : Bool} (w : World) (HA : SI w .i64 A n l) (HB : SI w .u8 Ab nb rl) (hwf : ∀ x ∈ rl, 0 ≤ x ∧ x < 256) :
    Calls Try.prog 8 #[.slice A n c, .slice Ab nb cb, .bool up] w (LawPost w) := by
  have hbig := HA.big
  have hbigb := HB.bigb
  have hlen := Lib.hid HA.len
  obtain rfl : rl.length = nb := HB.len
  have HWF := Lib.hid hwf
  have HAB := Lib.hid HB
  clear hwf
  go_enter Try.func8, Try.ntmps8
  go_wp2_with fail
  refine (wakes_any _).mono ?_
  rintro e w1 ⟨rfl, hb1⟩
  have HA1 := HA.below hb1 (Nat.le_refl _)
  have HB1 := HB.below hb1 (Nat.le_refl _)
  clear HA HB
  go_wp2_with fail
  refine (own_any _ HA1).mono ?_
  rintro e w2 ⟨A2, c2, rfl, hown2, hb2⟩
  have hs2 : SI w2 .i64 A2 n l := SI.of_own hown2 hbig
  have HA2 := HA1.below hb2 (Nat.le_refl _)
  have HB2 := HB1.below hb2 (Nat.le_refl _)
  have Hb2 := hb1.trans (hb2.mono hb1.size)
  clear hown2 hb2 HA1 HB1 hb1
  have q3 : (checkedOf l != checkedOf l) = false := by simp
  by_cases hc : checkedOf l = 0
  · go_wp2_with fail
    refine (new_ok _ hs2 hc).mono ?_
    rintro e w3 ⟨v, rfl, h3⟩
    have hshort : l.length ≤ 4096 := (checked_zero hc).1
    obtain ⟨Ad, cd, rfl, hD3, hAd⟩ := Dc.of_D1 h3 hshort
    have HA3 := HA2.below h3.bel (Nat.le_refl _)
    have HB3 := HB2.below h3.bel (Nat.le_refl _)
    have Hb3 := Hb2.trans (h3.bel.mono Hb2.size)
    have hlt3 : w2.heap.size < w3.heap.size := hD3.row.lt
    have hAd2 : ∀ b off s, Ad = some ⟨b, off, s⟩ → b < w3.heap.size := fun b off s e => (h3.tab.lt b (by rw [e]; rfl)).2
    clear h3 HA2 HB2 hs2
    go_wp2_with fail
    refine (rcodes_ok _ HA3 hc).mono ?_
    rintro e w4 ⟨rfl, h4⟩
    have HA4 := HA3.below h4.bel (Nat.le_refl _)
    have HB4 := HB3.below h4.bel (Nat.le_refl _)
    have hD4 : Dc w4 w2.heap.size l Ad cd := hD3.keep (h4.bel.block _ hlt3) (fun b off s e hlt => h4.bel.block b hlt)
    have Hb4 := Hb3.trans (h4.bel.mono Hb3.size)
    have hsz4 := h4.bel.size
    have HC := Lib.hid hc
    clear h4 HA3 HB3 hD3 Hb3 hc
    have q4 : ((some (⟨w2.heap.size, 0, none⟩ : Addr)) == none) = false := rfl
    go_wp2_with (at_builtin; refine wpList_append_sl _ rfl (.tmp 45) (.tmp 46) _ rfl w4.heap.size 5 1 1 _ Try.underlying49 infoU8 rfl (by omega) (.slice (some ⟨w4.heap.size, 0, none⟩) 0 0) 0 [] rfl ?c1 Ab rl.length cb (rl.map (.int .u8)) rfl ?c2 ?c3 (ones _ _) ?c4 ?c5 ?c6 ?_)
    case c1 => exact World.ownsRow_made w4 #[] 0 (Nat.le_refl _) (by simp [maxLen]) rfl
    case c2 => simp
    case c3 => exact HB4.sl.alloc _
    case c4 => unfold maxLen; omega
    case c5 => omega
    case c6 => simp
    intro v5 w5 hown5 hg5 _
    obtain ⟨A5, c5, rfl⟩ := own_form hown5
    have hb5 : Below w4.heap.size w4 w5 := ((Below.refl w4.heap.size w4).alloc (Nat.le_refl _) _).grown hg5 (by simp) (fun k hk => by simp [Value.ownBlock] at hk; omega)
    have hs5 : SI w5 .u8 A5 rl.length rl := SI.of_own (by simpa using hown5) (by show _ * 1 ≤ _; omega)
    have HA5 := HA4.below hb5 (Nat.le_refl _)
    have HB5 := HB4.below hb5 (Nat.le_refl _)
    have hsz5 := hb5.size
    have hD5 : Dc w5 w2.heap.size l Ad cd := hD4.keep (hb5.block _ (by omega)) (fun b off s e hlt => hb5.block b hlt)
    have Hb5 := Hb4.trans (hb5.mono Hb4.size)
    clear hown5 hg5 hb5 HA4 HB4 hD4 Hb4
    go_wp2_with fail
    refine (newReader_any _ hs5 up HWF.out).mono ?_
    rintro e w6 ⟨p, Ar, cr, rfl, hp, hAr, hR6, hb6⟩
    have HA6 := HA5.below hb6 (Nat.le_refl _)
    have HB6 := HB5.below hb6 (Nat.le_refl _)
    have hsz6 := hb6.size
    have hD6 : Dc w6 w2.heap.size l Ad cd := hD5.keep (hb6.block _ (by omega)) (fun b off s e hlt => hb6.block b hlt)
    have HAd := Lib.hid (show ∀ b off s, Ad = some ⟨b, off, s⟩ → b ≠ p from fun b off s e => by
      have := hAd2 b off s e; omega)
    have Hb6 := Hb5.trans (hb6.mono Hb5.size)
    have hp6 : p < w6.heap.size := hR6.row.lt
    clear hb6 HA5 HB5 hD5 Hb5 hs5 hAr hAd hAd2
    go_wp2_with fail
    refine (tabled_any _ HA6 (by have := hlen.out; omega)).mono ?_
    rintro e w7 ⟨hb7, tc, rfl, hT7, hone⟩
    have HB7 := HB6.below hb7 (Nat.le_refl _)
    have hsz7 := hb7.size
    have hD7 : Dc w7 w2.heap.size l Ad cd := hD6.keep (hb7.block _ (by omega)) (fun b off s e hlt => hb7.block b hlt)
    have hR7 : Rdr w7 p Ar cr rl 0 up := Rdr.keepL hR6 hb7
    have Hb7 := Hb6.trans (hb7.mono Hb6.size)
    have HTS := Lib.hid hT7.size
    have HI : Hid ((Try.prog.info? 57).map (·.size) = some tc.size) := by show _ = _; rw [hT7.size]; exact info57
    have HONE := Lib.hid hone
    clear hb7 HA6 HB6 hD6 hR6 Hb6 hone
    have HT7 := Lib.hid hT7
    have HD7 := Lib.hid hD7
    have HR7 := Lib.hid hR7
    have hsz1 := Hb7.size
    have hpw : w.heap.size ≤ p := by have := hp; have := Hb2.size; omega
    have Hb7' := Lib.hid Hb7
    clear hT7 hD7 hR7 HB7 Hb7
    go_wp2_with (refine wpList_store_new rfl 57 (.tmp 12) (.tmp 51) rfl tc _ _ 57 rfl rfl 37 info57 HTS.out rfl HONE.out ?_)
    have HR1 : Hid (R1 w7 ((w7.alloc (.cells tc 57)).alloc (.cells #[.slice Ab rl.length cb, .bool up, .int .i64 0] 51)) rl up p Ar Ab cr cb tc 0) :=
      ⟨⟨rfl, rfl, rfl, by simp; omega, fun i hi _ => by rw [Below.heap_alloc _ _ _ (by simp; omega), Below.heap_alloc _ _ _ hi]⟩, (HR7.out.row.alloc _).alloc _, by omega, heap_two w7 _ _ _, by
        have := rrF_row Ab rl.length cb 0 up (w7.alloc (.cells tc 57))
        rw [World.size_alloc] at this
        exact this⟩
    generalize (w7.alloc (.cells tc 57)).alloc (.cells #[.slice Ab rl.length cb, .bool up, .int .i64 0] 51) = W at *
    go_loopw [14, 15, 16, 17, 18, 19] (fun si _ _ _ _ _ wr => ∃ k a : Nat, k ≤ 40 ∧ si = .int .i64 k ∧ R1 w7 wr rl up p Ar Ab cr cb tc a) (fun si _ _ _ _ _ _ => 40 - (intOf si).toNat)
    case atStart => exact ⟨0, 0, by omega, rfl, HR1.out⟩
    case round =>
      clear HR1
      obtain ⟨k, a, hk, rfl, hR⟩ := hrel
      by_cases hlt : k < 40
      · have hd : decide ((k : Int) < 40) = true := by simp; omega
        have hrd := R1.rdr hR HR7.out
        have hD : Dc wr w2.heap.size l Ad cd := HD7.out.keep (hR.g.block _ (by omega) (fun e => by injection e with e; omega)) (fun b off s e hlt => hR.g.block b hlt (fun e2 => by injection e2 with e2; exact HAd.out b off s e e2))
        have HR' := Lib.hid hR
        have hle := hR.le
        have hltw := hR.lt
        clear hR
        go_wp2_with fail
        refine (next_any _ hD hrd (by omega) HAd.out).mono ?_
        rintro e w8 ⟨rfl, hR8, hg8⟩
        clear hD hrd
        have hp7 : p < w7.heap.size := by omega
        obtain ⟨g8, t8, r8⟩ := R1.next HR'.out hp7 hg8
        have HNX : Hid (rnextM l (bitAt rl up) (8 * rl.length) a = nextM l (bitAt rl up) (8 * rl.length) a) := (next_eq l (bitAt rl up) (fun i => (bitAt_bd rl up i).1) (8 * rl.length) a).symm
        generalize nextM l (bitAt rl up) (8 * rl.length) a = res at *
        obtain ⟨y, er, b⟩ := res
        have hrow8 := Lib.hid hR8.row
        have hle8 : b ≤ 8 * rl.length := hR8.le
        have HB8 : SI w8 .u8 Ab rl.length rl := SI.below (HAB.out) ((Hb7'.out).trans (below_grown g8 (by omega) Hb7'.out.size)) (Nat.le_refl _)
        have HT8 : Tab w6.heap.size w8 l tc := HT7.out.grown g8 hp6
        have HTB8 := Lib.hid t8
        have c0 := r8.cell (i := 0) (by omega)
        have c1 := r8.cell (i := 1) (by omega)
        have c2' := r8.cell (i := 2) (by omega)
        simp only [rrF] at c0 c1 c2'
        have hlt8 : w7.heap.size + 1 < w8.heap.size := r8.lt
        have HR8 := Lib.hid r8
        have HG8 := Lib.hid g8
        have HTT8 := Lib.hid HT8
        have HBB8 := Lib.hid HB8
        clear hR8 hg8 t8 r8 g8 HT8 HB8
        go_wp2_with (refine wpList_load_row rfl 57 (.tmp 12) rfl w7.heap.size rfl 57 tc (0, 0) _ HTB8.out Try.underlying57 rfl HI.out ?_)
        refine (rnext_any (at_ := a) _ HTT8.out HBB8.out HWF.out hle).mono ?_
        rintro e w9 ⟨rfl, hb9⟩
        rw [HNX.out]
        have r9 := HR8.out.of_block (hb9.block _ (by omega))
        have f0 := r9.frozen 0
        have f1 := r9.frozen 1
        have f2 := r9.frozen 2
        have d0 := r9.cell (i := 0) (by omega)
        have d1 := r9.cell (i := 1) (by omega)
        have d2 := r9.cell (i := 2) (by omega)
        simp only [rrF] at d0 d1 d2
        have hlt9 : w7.heap.size + 1 < w9.heap.size := r9.lt
        have HB9 := Lib.hid hb9
        have HR9 := Lib.hid r9
        clear c0 c1 c2' hb9 r9
        go_upto_region 16 with (fail)
        obtain ⟨W2, hW2, hR2⟩ := R1.after HG8.out hrow8.out hle8 HTB8.out HR8.out HB9.out hp7
        rw [← hW2]
        have hR3 := hR2.alloc hp7 (.cells #[.slice Ab rl.length cb, .bool up, .int .i64 b] 51)
        clear hW2 hR2 f0 f1 f2 d0 d1 d2
        generalize W2.alloc _ = W3 at *
        have hrd3 := R1.rdr hR3 HR7.out
        have e2 := hR3.rr.cell (i := 2) (by omega)
        simp only [rrF] at e2
        have HR3 := Lib.hid hR3
        clear hR3
        have t1 : (y != y) = false := by simp
        have t2 : (er != er) = false := by simp
        have t3 : ((b : Int) != (b : Int)) = false := by simp
        go_quiet ((go_at_call 25; exact Calls.quiet_of_same ((place_of _ (hrd3.drewN _)).mono fun e w' h => ⟨h.1, h.2.symm⟩)))
        have HR4 := Lib.hid (HR3.out.drewN nq)
        clear hrd3 e2
        by_cases h5 : er = 5
        · have t4 : (er == 5) = true := by simp [h5]
          clear h5
          go_wp2
          go_ret
          exact ⟨rfl, Hb7'.out.trans (below_grown HR4.out.g hpw hsz1)⟩
        · have t4 : (er == 5) = false := by simp [h5]
          clear h5
          go_wp2
          go_roundw
          case rel => exact ⟨k + 1, b, by omega, by go_num, HR4.out⟩
          case measure => simp [intOf]; omega
      · have hd : decide ((k : Int) < 40) = false := by simp; omega
        have HR4 := Lib.hid hR
        clear hR
        go_wp2
        go_ret
        exact ⟨rfl, Hb7'.out.trans (below_grown HR4.out.g hpw hsz1)⟩
  · have hb : (checkedOf l != 0) = true := by simp [hc]
    have Hc := Lib.hid hc
    have Hb4 := Lib.hid Hb2
    clear hc Hb2
    go_wp2_with fail
    refine (new_err _ hs2 Hc.out).mono ?_
    rintro e w4 ⟨rfl, rfl⟩
    clear hs2
    go_wp2_with fail
    refine (rcodes_err _ HA2 Hc.out).mono ?_
    rintro e w4 ⟨rfl, rfl⟩
    clear HA2 HB2
    go_wp2
    go_ret
    exact ⟨rfl, Hb4.out⟩
end Go.Proofs.Ytpecemkjoklhfaa.LawR
