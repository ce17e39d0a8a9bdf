/-
  Texts of this claim, joined by program (MdB, StpB, ScI). Walks: the program's number, name, file, numbers.
-/
import Derived.Test.YtoofgblmpjndjaaGreatDoorZG12
import Derived.Lib.SmallJoins
import Derived.Test.YtoofgblmpjndjaaGreatDoorZG3
import Derived.Test.YtoofgblmpjndjaaGreatDoorZG24
import Derived.Test.YtoofgblmpjndjaaGreatDoorZG5
import Derived.Deep.RegionHeld3
set_option linter.unusedVariables false
set_option linter.unusedSimpArgs false
namespace Go.Proofs.YtoofgblmpjndjaaGreatDoor.Scr
open Go.RowKit K Go.Lib

theorem name_made {t : Tx} (w : World) : Calls Tryz.prog 46 #[.string (ba t)] w (TextP w t (nameB t)) := name_any w (made_any w (more := [95]) (by decide) (by decide))
theorem file_made {t : Tx} (w : World) : Calls Tryz.prog 47 #[.string (ba t)] w (TextP w t (fileB t)) := file_any w (made_any w (more := [95, 46, 45]) (by decide) (by decide))
def digsOf (s : Tx) : Tx := trimPrefix s [45]
theorem digsOf_cons (c : UInt8) (r : Tx) : digsOf (c :: r) = if c = 45 then r else c :: r := by
 unfold digsOf trimPrefix hasPrefix
 by_cases h : c = 45
 ·subst h; simp
 ·simp only [List.isPrefixOf, if_neg h]
  simp [h]
  exact fun e => h e.symm
theorem num_none {s : Tx} (h : digB (digsOf s) = false) : numM s = none := by
 match s with
 | [] => rfl
 | c :: r =>
  rw [digsOf_cons] at h
  rw [numM_cons]
  split at h
  ·rename_i hc; rw [if_pos hc, if_neg (by rw [h]; simp)]
  ·rename_i hc; rw [if_neg hc, if_neg (by rw [h]; simp)]
theorem num_some {s : Tx} (h : digB (digsOf s) = true) : ∃ v, numM s = some v := by
 match s with
 | [] => exact absurd h (by decide)
 | c :: r =>
  rw [digsOf_cons] at h
  rw [numM_cons]
  split at h
  ·rename_i hc; exact ⟨_, by rw [if_pos hc, if_pos h]⟩
  ·rename_i hc; exact ⟨_, by rw [if_neg hc, if_pos h]⟩
theorem digs_len (s : Tx) : s.length ≤ (digsOf s).length + 1 := by
 match s with
 | [] => simp
 | c :: r =>
  rw [digsOf_cons]
  split <;> simp
def dg : Tx := [48, 49, 50, 51, 52, 53, 54, 55, 56, 57]
theorem dg_kind (c : UInt8) : dg.contains c = isDig c := by
 have hall : ∀ n : Fin 256, dg.contains (UInt8.ofNat n.val) = isDig (UInt8.ofNat n.val) := by decide +kernel
 have := hall ⟨c.toNat, c.toNat_lt⟩
 rw [show UInt8.ofNat (⟨c.toNat, c.toNat_lt⟩ : Fin 256).val = c by simp] at this
 exact this
set_option maxRecDepth 20000 in
set_option maxHeartbeats 4000000 in
theorem number_any {s : Tx} (w : World) : Calls Tryz.prog 72 #[.string (ba s)] w (NumberP w (numM s)) := by
 obtain ⟨r, hr⟩ : ∃ r, numM s = r := ⟨_, rfl⟩
 rw [hr]
 have HTP := Lib.hid ((Scs.strings_TrimPrefix (ba s) ⟨#[45]⟩ w).mono (R' := fun e w' => e = .returned (.string ⟨(trimPrefix (ba s).data.toList (⟨#[45]⟩ : ByteArray).data.toList).toArray⟩) ∧ w = w') (fun e w' h => ⟨h.1, h.2.symm⟩))
 obtain ⟨d, hd⟩ : ∃ d, digsOf s = d := ⟨_, rfl⟩
 have hdd : (⟨(trimPrefix (ba s).data.toList (⟨#[45]⟩ : ByteArray).data.toList).toArray⟩ : ByteArray) = ba d := by rw [ba_list, ← hd]; rfl
 rw [hdd] at HTP
 have hdl : (ba d).size = d.length := ba_size d
 obtain ⟨z, hz⟩ : ∃ z, ba d = z := ⟨_, rfl⟩
 obtain ⟨zs, hzs⟩ : ∃ z, ba s = z := ⟨_, rfl⟩
 have HTR := fun (hl : d.length ≤ 9) => Scs.strings_Trim_laid (ba d) ⟨#[48, 49, 50, 51, 52, 53, 54, 55, 56, 57]⟩ w (by rw [ba_size]; omega) (by decide) (fun j b hb => by
  have h2 : ∀ c ∈ dg, c.toNat < 128 := by decide
  exact h2 b (List.mem_of_getElem? hb))
 rw [hz] at hdl HTR HTP
 rw [hzs] at HTP ⊢
 have HZ := Lib.hid hz
 have HZS := Lib.hid hzs
 have HR := Lib.hid hr
 have HD := Lib.hid hd
 clear hdd hz hzs hr hd
 have hbad : ¬ (1 ≤ d.length ∧ d.length ≤ 9 ∧ d.all isDig = true) → r = none := fun h => by
  rw [← HR.out]
  refine num_none ?_
  rw [HD.out]
  unfold digB
  rw [Bool.and_eq_false_iff, decide_eq_false_iff_not]
  by_cases h1 : 1 ≤ d.length ∧ d.length ≤ 9
  ·right; exact Bool.eq_false_iff.2 fun h2 => h ⟨h1.1, h1.2, h2⟩
  ·left; exact h1
 have HX := Lib.hid (must_no w)
 by_cases h1 : 1 ≤ d.length
 ·have t1 : decide ((1 : Int) ≤ (z.size : Int)) = true := decide_eq_true (by omega)
  have t1' : decide (1 ≤ z.size) = true := decide_eq_true (by omega)
  have q1 : (1 : Int) ≤ (z.size : Int) := by omega
  by_cases h2 : d.length ≤ 9
  ·have t2 : decide ((z.size : Int) ≤ 9) = true := decide_eq_true (by omega)
   have t2' : decide (z.size ≤ 9) = true := decide_eq_true (by omega)
   have HT := HTR h2
   obtain ⟨q, hq⟩ : ∃ q : ByteArray, (⟨(trimS z.data.toList (⟨#[48, 49, 50, 51, 52, 53, 54, 55, 56, 57]⟩ : ByteArray).data.toList).toArray⟩ : ByteArray) = q := ⟨_, rfl⟩
   rw [hq] at HT
   have hqe : q.toList.isEmpty = decide (d.all isDig = true) := by
    rw [← hq, ← HZ.out, ba_list]
    show (ba (trimS d dg)).toList.isEmpty = _
    rw [ba_empty]
    refine decide_eq_decide.2 ((trim_nil d dg).trans ?_)
    rw [show dg.contains = isDig from funext dg_kind]
   have HTT := Lib.hid HT
   by_cases h3 : d.all isDig = true
   ·have hqe2 : q.toList.isEmpty = true := by rw [hqe]; exact decide_eq_true h3
    obtain ⟨v, hv⟩ : ∃ v, numM s = some v := num_some (by rw [HD.out]; unfold digB; rw [h3, decide_eq_true ⟨h1, h2⟩]; rfl)
    have HE : Hid (r = some v) := by show _ = _; rw [← HR.out]; exact hv
    have hat := Scs.strconv_Atoi zs v (by rw [← HZS.out, ba_size]; have := digs_len s; rw [HD.out] at this; omega) (by rw [← HZS.out, ba_list]; exact atoi_of hv)
    have HAT := Lib.hid hat
    have HDG : Hid (∀ (k : Nat) (h : k < z.size), 48 ≤ (z[k]'h).toNat ∧ (z[k]'h).toNat ≤ 57) := by
     show ∀ _, ∀ _, _
     intro k h
     have hz := HZ.out
     subst hz
     obtain ⟨c, hc, hmem⟩ := ba_at h
     rw [hc]
     exact of_decide_eq_true (List.all_eq_true.1 h3 c hmem)
    clear hv hat hq hqe h1 h2 h3 HT HTR hbad hdl
    go_enter Tryz.func72, Tryz.ntmps72
    go_wp2_with (first | (go_at_call 101; refine HTP.out.mono ?_; rintro e w' ⟨rfl, rfl⟩) | (go_at_call 97; refine HTT.out.mono ?_; rintro e w1 ⟨rfl, hb1⟩; have HB1 := Lib.hid hb1; clear hb1; have HY := Lib.hid (must_yes w1)) | (go_at_call 45; refine HY.out.mono ?_; rintro e w' ⟨rfl, rfl⟩) | fail)
    go_loopg [] z.size (fun gf wx => ∃ pos : Nat, wx.heap[w1.heap.size]? = some (.stringIter z pos) ∧ Below w.heap.size w wx ∧ z.size ≤ pos + gf)
    case atStart => exact ⟨0, World.iter_heap w1 z 0, HB1.out.alloc HB1.out.size _, by omega⟩
    case round =>
     obtain ⟨pos, hit, hbw, hfu⟩ := hrel
     by_cases hps : pos < z.size
     ·obtain ⟨g', rfl⟩ : ∃ g', gk = g' + 1 := ⟨gk - 1, by omega⟩
      obtain ⟨ha1, ha2⟩ := HDG.out pos hps
      have hnx : ∀ ty, (Instr.next (.pointer (some ⟨w1.heap.size, 0, none⟩)) true ty).run Tryz.prog wr = _ := fun ty => Lib.run_next_ascii_at wr w1.heap.size z pos ty hit hps (by omega)
      have hit2 := Lib.iterAt_heap wr w1.heap.size z pos (pos + 1) hit
      have hbw2 := Lib.below_iterAt hbw (k := w1.heap.size) HB1.out.size z (pos + 1)
      obtain ⟨W, hWd⟩ : ∃ W, wr.iterAt w1.heap.size z (pos + 1) = W := ⟨_, rfl⟩
      rw [hWd] at hnx hit2 hbw2
      obtain ⟨c, hc⟩ : ∃ c, z[pos]'hps = c := ⟨_, rfl⟩
      rw [hc] at hnx ha1 ha2
      have c1 : decide ((48 : Int) ≤ (c.toNat : Int)) = true := decide_eq_true (by omega)
      have c1' : decide (48 ≤ c.toNat) = true := decide_eq_true ha1
      have c2 : decide ((c.toNat : Int) ≤ 57) = true := decide_eq_true (by omega)
      have c2' : decide (c.toNat ≤ 57) = true := decide_eq_true ha2
      have HI := Lib.hid hit2
      have HB := Lib.hid hbw2
      have HF := Lib.hid hfu
      have HYW := Lib.hid (must_yes W)
      clear hit hbw hit2 hbw2 hWd ha1 ha2 hc hps hfu
      go_wp2_with (first | (go_at_call 45; refine HYW.out.mono ?_; rintro e w' ⟨rfl, rfl⟩) | fail)
      go_roundg g'
      case measure => omega
      case rel => exact ⟨pos + 1, HI.out, HB.out, by have := HF.out; omega⟩
     ·have hnx : ∀ ty, (Instr.next (.pointer (some ⟨w1.heap.size, 0, none⟩)) true ty).run Tryz.prog wr = _ := fun ty => Lib.run_next_end_at wr w1.heap.size z pos ty hit hps
      have HB := Lib.hid hbw
      clear hbw hfu hps
      go_wp2_with (first | (go_at_call 102; refine (HAT.out _).mono ?_; rintro e w' ⟨rfl, t, rfl⟩) | fail)
      go_ret
      refine ⟨?_, by rw [HE.out]; rfl⟩
      exact HB.out.trans (Joins.below_bytesWorld _ _ _ _ HB.out.size)
   ·have hqe2 : q.toList.isEmpty = false := by rw [hqe]; exact decide_eq_false h3
    have HE : Hid (r = none) := hbad (fun h => h3 h.2.2)
    clear hq hqe h1 h2 h3 HT HTR hbad hdl
    go_enter Tryz.func72, Tryz.ntmps72
    go_wp2_with (first | (go_at_call 101; refine HTP.out.mono ?_; rintro e w' ⟨rfl, rfl⟩) | (go_at_call 97; refine HTT.out.mono ?_; rintro e w1 ⟨rfl, hb1⟩; have HB1 := Lib.hid hb1; clear hb1; have HXN := Lib.hid (must_no w1)) | (go_at_call 45; refine HXN.out.mono ?_; rintro e w' ⟨rfl, rfl⟩) | fail)
    exact bodyPost_panic ⟨HB1.out, by rw [HE.out]⟩
  ·have t2 : decide ((z.size : Int) ≤ 9) = false := decide_eq_false (by omega)
   have t2' : decide (z.size ≤ 9) = false := decide_eq_false (by omega)
   have HE : Hid (r = none) := hbad (fun h => h2 h.2.1)
   clear h1 h2 HTR hbad hdl
   go_enter Tryz.func72, Tryz.ntmps72
   go_wp2_with (first | (go_at_call 101; refine HTP.out.mono ?_; rintro e w' ⟨rfl, rfl⟩) | (go_at_call 45; refine HX.out.mono ?_; rintro e w' ⟨rfl, rfl⟩) | fail)
   exact bodyPost_panic ⟨Below.refl _ _, by rw [HE.out]⟩
 ·have t1 : decide ((1 : Int) ≤ (z.size : Int)) = false := decide_eq_false (by omega)
  have t1' : decide (1 ≤ z.size) = false := decide_eq_false (by omega)
  have q1 : ¬ (1 : Int) ≤ (z.size : Int) := by omega
  have HE : Hid (r = none) := hbad (fun h => h1 h.1)
  clear h1 HTR hbad hdl
  go_enter Tryz.func72, Tryz.ntmps72
  go_wp2_with (first | (go_at_call 101; refine HTP.out.mono ?_; rintro e w' ⟨rfl, rfl⟩) | (go_at_call 45; refine HX.out.mono ?_; rintro e w' ⟨rfl, rfl⟩) | fail)
  exact bodyPost_panic ⟨Below.refl _ _, by rw [HE.out]⟩
end Go.Proofs.YtoofgblmpjndjaaGreatDoor.Scr
set_option linter.unusedVariables false
set_option linter.unusedSimpArgs false
namespace Go.Proofs.YtoofgblmpjndjaaGreatDoor.Scr
open Go.RowKit K Go.Lib

def StepP (w : World) (r : Option St) (e : Ending) (w' : World) : Prop := Below w.heap.size w w' ∧ match r with
 | none => e = .returned (.tuple #[.agg st0, .bool false])
 | some s => ∃ A n c A2 m c2, e = .returned (.tuple #[.agg (stC 0 (ba s.op) (ba s.dst) A n c (ba s.file) A2 m c2), .bool true]) ∧ w'.ownsRow w.heap.size 9 1 (.slice A n c) n (s.srcs.map vS) ∧ w'.ownsRow w.heap.size 3 1 (.slice A2 m c2) m (s.args.map (.int .i64))
theorem stepM_read {w : List Tx} (h0 : w.getD 0 [] = readT) : stepM w = (if w.length = 3 ∧ nameB (w.getD 1 []) = true ∧ fileB (w.getD 2 []) = true then some ⟨readT, w.getD 1 [], [], w.getD 2 [], []⟩ else none) := by
 unfold stepM
 simp only [h0]
 exact if_pos rfl
theorem stepM_write {w : List Tx} (h0 : w.getD 0 [] = writeT) : stepM w = (if 4 ≤ w.length ∧ nameB (w.getD 1 []) = true ∧ fileB (w.getD 2 []) = true then
   match numsM (w.drop 4) with
   | none => none
   | some l => if formatB (fmtN (w.getD 3 []) :: l) then some ⟨writeT, [], [w.getD 1 []], w.getD 2 [], fmtN (w.getD 3 []) :: l⟩ else none
  else none) := by
 unfold stepM
 simp only [h0]
 exact (if_neg (by decide)).trans (if_pos rfl)
def fillT : Tx := [102, 105, 108, 108]
theorem stepM_fill {w : List Tx} (h0 : w.getD 0 [] = fillT) : stepM w = (if 2 ≤ w.length ∧ nameB (w.getD 1 []) = true then
   match numsM (w.drop 2) with
   | none => none
   | some l => if fillB l then some ⟨fillT, w.getD 1 [], [], [], l⟩ else none
  else none) := by
 unfold stepM
 simp only [h0]
 exact (if_neg (by decide)).trans ((if_neg (by decide)).trans (if_pos rfl))
theorem stepM_op {w : List Tx} {op : Tx} (h0 : w.getD 0 [] = op) (h1 : op ≠ readT) (h2 : op ≠ writeT) (h3 : op ≠ fillT) : stepM w = (if 2 + (checkM op []).2 ≤ w.length ∧ nameB (w.getD 1 []) = true ∧ ((w.drop 2).take (checkM op []).2).all nameB = true then
   match numsM (w.drop (2 + (checkM op []).2)) with
   | none => none
   | some l => if (checkM op l).1 = 0 then some ⟨op, w.getD 1 [], (w.drop 2).take (checkM op []).2, [], l⟩ else none
  else none) := by
 unfold stepM
 simp only [h0]
 exact (if_neg h1).trans ((if_neg h2).trans (if_neg h3))
theorem res_step {ts : Array Value} {w W : World} {cs : Array Value} {b : Bool} (h2 : ts[2]? = some (.pointer (some ⟨w.heap.size, 0, none⟩))) (h3 : ts[3]? = some (.pointer (some ⟨w.heap.size + 1, 0, none⟩)))
  (hs : W.heap[w.heap.size]? = some (.cells cs 37 (0, 0))) (hcs : cs.size = 6) (ho : W.heap[w.heap.size + 1]? = some (.cells #[.bool b] 4 (0, 0))) : (results Tryz.f23 ts).run Tryz.prog W = .ok (.tuple #[.agg cs, .bool b]) W := by
 have e1 := run_loadVar_row W w.heap.size 37 37 cs (0, 0) _ hs Tryz.underlying37 rfl (by rw [hcs]; exact infoSt)
 have e2 : W.cell? ⟨w.heap.size + 1, 0, none⟩ = some (.bool b) := Ard.row_cell ho 0
 have e3 : (loadVar 4 ⟨w.heap.size + 1, 0, none⟩).run Tryz.prog W = .ok (.bool b) W := by simp [go_sem, e2]
 simp [results, Tryz.results23, h2, h3, asAddr, e1, e3]
theorem door_bad {w W : World} {ts : Array Value} {op dst file : ByteArray} {A A2 : Option Addr} {n c m c2 : Nat} (h2 : ts[2]? = some (.pointer (some ⟨w.heap.size, 0, none⟩))) (h3 : ts[3]? = some (.pointer (some ⟨w.heap.size + 1, 0, none⟩)))
  (hq : SQ w W op dst A n c file A2 m c2) :
  Leaves Tryz.prog Tryz.f23 ts (StepP w none) [{ target := .fn (.func 44) #[.pointer (some ⟨w.heap.size, 0, none⟩), .pointer (some ⟨w.heap.size + 1, 0, none⟩)], args := #[] }] (.panicking bk) W := by
 refine leaves_cons (f := 44) (args := #[.pointer (some ⟨w.heap.size, 0, none⟩), .pointer (some ⟨w.heap.size + 1, 0, none⟩)]) (by simp) (by simp [go_sem]) ?_
 refine (catch_bad w.heap.size (w.heap.size + 1) W (by omega) rfl hq.s hq.o).mono ?_
 rintro e u' w'' ⟨rfl, rfl, h4, h5, h6⟩
 refine ⟨_, res_step h2 h3 h4 rfl h5, hq.bel.trans h6, rfl⟩
theorem door_yes {w W : World} {ts : Array Value} {s : St} {A A2 : Option Addr} {n c m c2 : Nat} (h2 : ts[2]? = some (.pointer (some ⟨w.heap.size, 0, none⟩))) (h3 : ts[3]? = some (.pointer (some ⟨w.heap.size + 1, 0, none⟩)))
  (hb : Below w.heap.size w W) (hs : W.heap[w.heap.size]? = some (.cells (stC 0 (ba s.op) (ba s.dst) A n c (ba s.file) A2 m c2) 37 (0, 0))) (ho : W.heap[w.heap.size + 1]? = some (.cells #[.bool true] 4 (0, 0)))
  (h4 : W.ownsRow w.heap.size 9 1 (.slice A n c) n (s.srcs.map vS)) (h5 : W.ownsRow w.heap.size 3 1 (.slice A2 m c2) m (s.args.map (.int .i64))) :
  Leaves Tryz.prog Tryz.f23 ts (StepP w (some s)) [{ target := .fn (.func 44) #[.pointer (some ⟨w.heap.size, 0, none⟩), .pointer (some ⟨w.heap.size + 1, 0, none⟩)], args := #[] }] .returning W := by
 refine leaves_cons (f := 44) (args := #[.pointer (some ⟨w.heap.size, 0, none⟩), .pointer (some ⟨w.heap.size + 1, 0, none⟩)]) (by simp) (by simp [go_sem]) ?_
 refine (catch_idle w.heap.size (w.heap.size + 1) W).mono ?_
 rintro e u' w'' ⟨rfl, rfl, rfl⟩
 exact ⟨_, res_step h2 h3 hs rfl ho, hb, _, _, _, _, _, _, rfl, h4, h5⟩
theorem SQ.named (w : World) : ∃ W, (w.alloc (.cells #[.int .i64 0, .string ⟨#[]⟩, .string ⟨#[]⟩, .slice none 0 0, .string ⟨#[]⟩, .slice none 0 0] 37)).alloc (.cells #[.bool false] 4) = W ∧ SQ w W ⟨#[]⟩ ⟨#[]⟩ none 0 0 ⟨#[]⟩ none 0 0 := ⟨_, rfl, SQ.start w⟩
theorem res_same {ts ts' : Array Value} (h2 : ts.getD 2 undef = ts'.getD 2 undef) (h3 : ts.getD 3 undef = ts'.getD 3 undef) : results Tryz.f23 ts = results Tryz.f23 ts' := by
 rw [Array.getD_eq_getD_getElem?, Array.getD_eq_getD_getElem?] at h2 h3
 simp [results, Tryz.results23, h2, h3]
theorem leaves_same {ts ts' : Array Value} (h2 : ts.getD 2 undef = ts'.getD 2 undef) (h3 : ts.getD 3 undef = ts'.getD 3 undef) {R : Ending → World → Prop} : ∀ (ds : List Deferred) (u : FrameMode) (w : World), Leaves Tryz.prog Tryz.f23 ts R ds u w → Leaves Tryz.prog Tryz.f23 ts' R ds u w
 | [], .returning, w, ⟨v, h, hr⟩ => ⟨v, by rw [← res_same h2 h3]; exact h, hr⟩
 | [], .panicking _, w, h => h
 | [], .run, w, h => h
 | d :: ds, u, w, ⟨hu, fv, cap, f, args, e1, e2, hc⟩ => ⟨hu, fv, cap, f, args, e1, e2, hc.mono fun e u' w' h => by
  cases e with
  | returned v => exact leaves_same h2 h3 ds _ _ h
  | panicked ch => exact leaves_same h2 h3 ds _ _ h
  | outgrown => exact h⟩
theorem bodyD_put {d : Nat} (hd2 : d ≠ 2) (hd3 : d ≠ 3) {R : Ending → World → Prop} {c : List PanicEntry} {a : Act} {v : Value} {w : World} (h : bodyPostD Tryz.prog Tryz.f23 R (.panic c) (a.put (some d) v) w) : bodyPostD Tryz.prog Tryz.f23 R (.panic c) a w := by
 refine leaves_same ?_ ?_ _ _ _ h
 ·simp only [Act.put, Array.getD_eq_getD_getElem?, Array.getElem?_setIfInBounds, if_neg hd2]
 ·simp only [Act.put, Array.getD_eq_getD_getElem?, Array.getElem?_setIfInBounds, if_neg hd3]
theorem SQ.fin {w V W2 : World} {op dst file : ByteArray} {A A2 : Option Addr} {n c m c2 : Nat} (h : SQ w V op dst A n c file A2 m c2) (h1 : W2.heap[w.heap.size]? = some (.cells (stC 0 op dst A n c file A2 m c2) 37 (0, 0))) (hg : V.grownBy W2 (some w.heap.size)) :
  ∃ W3, W2.setCell ⟨w.heap.size + 1, 0, none⟩ (.bool true) = W3 ∧ W2.cell? ⟨w.heap.size + 1, 0, none⟩ = some (.bool false) ∧ W2.frozen? ⟨w.heap.size + 1, 0, none⟩ = false ∧
   Hid (W3.heap[w.heap.size]? = some (.cells (stC 0 op dst A n c file A2 m c2) 37 (0, 0)) ∧ W3.heap[w.heap.size + 1]? = some (.cells #[.bool true] 4 (0, 0)) ∧ Below w.heap.size w W3 ∧
    (∀ (T : TypeId) (v : Value) (k : Nat) (xs : List Value), V.ownsRow (w.heap.size + 2) T 1 v k xs → W3.ownsRow w.heap.size T 1 v k xs)) := by
 have ho : W2.heap[w.heap.size + 1]? = some (.cells #[.bool false] 4 (0, 0)) := (hg.block _ h.lt (by simp)).trans h.o
 have hb : Below w.heap.size w W2 := h.bel.grown hg (by have := h.lt; omega) (fun k e => by injection e with e; omega)
 refine ⟨_, rfl, Ard.row_cell ho 0, Ard.row_frozen ho 0, (heap_setCell_other W2 ⟨w.heap.size + 1, 0, none⟩ _ _ (by show w.heap.size ≠ w.heap.size + 1; omega)).trans h1, heap_setCell_same W2 _ 0 _ _ _ ho, hb.setCell (p := ⟨w.heap.size + 1, 0, none⟩) (by show _ ≤ w.heap.size + 1; omega) _, fun T v k xs hx => ?_⟩
 have h2 : W2.ownsRow (w.heap.size + 2) T 1 v k xs := hx.kept hg (by
  cases hv : v.ownBlock with
  | none => exact .inl rfl
  | some g =>
   right
   intro e
   injection e with e
   have := (hx.lt g hv).1
   omega)
 exact ⟨h2.1, ((ownsRow_setCell_below h2 (a := ⟨w.heap.size + 1, 0, none⟩) (by show w.heap.size + 1 < w.heap.size + 2; omega) (.bool true)).2).imp id fun ⟨g, cap, cur, e1, e2, e3⟩ => ⟨g, cap, cur, e1, by omega, e3⟩⟩
theorem own_lower {w : World} {base base' : Nat} {e : TypeId} {size : Nat} {v : Value} {n : Nat} {xs : List Value} (h : w.ownsRow base e size v n xs) (hb : base' ≤ base) : w.ownsRow base' e size v n xs :=
 ⟨h.1, h.2.imp id fun ⟨g, cap, cur, h1, h2, h3⟩ => ⟨g, cap, cur, h1, Nat.le_trans hb h2, h3⟩⟩
theorem stC_one (line : Int) (op dst : ByteArray) (A : Option Addr) (n c : Nat) (file : ByteArray) (A2 : Option Addr) (m c2 : Nat) : (stC line op dst A n c file A2 m c2).all (·.oneCell') = true := by simp [stC, Value.oneCell']
set_option maxRecDepth 20000 in
set_option maxHeartbeats 8000000 in
theorem step_read {A : Option Addr} {n c : Nat} {l : List Tx} (w : World) (H : SS w A n l) (hn : 1 ≤ n) (hcap : n ≤ c) (h0 : l.getD 0 [] = readT) :
  Calls Tryz.prog 23 #[.slice A n c] w (StepP w (stepM l)) := by
 have hmf : ∀ (fn : Fn) (first cap : Array Value) (w : World), (Instr.makeFunc fn first cap).run Tryz.prog w = .ok (.func fn first cap) w := fun _ _ _ _ => rfl
 have HS := Lib.hid H
 have HLN := Lib.hid H.len
 have HCAP := Lib.hid hcap
 have HNS := Lib.hid H.sz
 have H0 := Lib.hid h0
 obtain ⟨r, hr0⟩ : ∃ r, stepM l = r := ⟨_, rfl⟩
 rw [hr0]
 have HR := Lib.hid hr0
 obtain ⟨W, hW, hq⟩ := SQ.named w
 obtain ⟨b0, o0, t0, rfl, hc0, ht0, hb0⟩ := H.cell (i := 0) (by omega)
 have HB0 := Lib.hid hb0
 rw [Nat.add_zero] at hc0
 have htr : readT = t0 := by rw [← h0, List.getD_eq_getElem?_getD, ht0]; rfl
 subst htr
 have hc0 := (hq.bel.cell (p := ⟨b0, o0, none⟩) hb0).trans hc0
 have c1 : W.cell? ⟨w.heap.size, 1, none⟩ = some (.string ⟨#[]⟩) := hq.cells.1.1
 have f1 := hq.cells.2.1 1
 have n0 : (0 : Int) < n := by omega
 have n1 : 0 < n := hn
 have n2 : n ≠ 0 := by omega
 obtain ⟨W1, hW1, hq1⟩ : ∃ W1, W.setCell ⟨w.heap.size, 1, none⟩ (.string (ba readT)) = W1 ∧ SQ w W1 (ba readT) ⟨#[]⟩ none 0 0 ⟨#[]⟩ none 0 0 := ⟨_, rfl, hq.setOp _⟩
 have d1 := hq1.cells.1.1
 have r0 : ((ba readT).toList == [114, 101, 97, 100]) = true := by rw [tl_ba]; rfl
 obtain ⟨zr, hzr⟩ : ∃ z, ba readT = z := ⟨_, rfl⟩
 have HZR := Lib.hid hzr
 rw [hzr] at hc0 hW1 d1 hq1 r0
 have HQ1 := Lib.hid hq1
 clear H hq ht0 h0 hq1 hzr hr0 hcap hb0
 go_enter_defers Tryz.func23, Tryz.ntmps23
 go_wp2_with fail
 have HX := Lib.hid (must_no W1)
 have HY := Lib.hid (must_yes W1)
 by_cases hm : ¬ (n = 3)
 ·have t3 : ((n : Int) == 3) = false := by simp; omega
  have HE : Hid (r = none) := by show _ = _; rw [← HR.out]; rw [stepM_read H0.out, if_neg (fun h => hm (HLN.out.symm.trans h.1))]
  rw [t3]
  clear hm
  refine HX.out.mono ?_
  rintro e w' ⟨rfl, rfl⟩
  go_wp2_with fail
  rw [HE.out]
  exact door_bad rfl rfl HQ1.out
 replace hm := Decidable.not_not.1 hm
 obtain ⟨b1', o1', t1, e1, hc1, ht1, -⟩ := HS.out.cell (i := 1) (by omega)
 injection e1 with e1
 injection e1 with ea1 eb1
 subst ea1 eb1
 have HG1 : Hid (l.getD 1 [] = t1) := by show _ = _; rw [List.getD_eq_getElem?_getD, ht1]; rfl
 obtain ⟨z1, hz1⟩ : ∃ z, ba t1 = z := ⟨_, rfl⟩
 have HZ1 := Lib.hid hz1
 rw [hz1] at hc1
 have HC1 := Lib.hid hc1
 have x1 := (HQ1.out.bel.cell (p := ⟨b0, o0 + 1, none⟩) HB0.out).trans hc1
 have i1 : (1 : Int) < n := by omega
 clear hc1 ht1 hz1
 obtain ⟨b2', o2', t2, e2, hc2, ht2, -⟩ := HS.out.cell (i := 2) (by omega)
 injection e2 with e2
 injection e2 with ea2 eb2
 subst ea2 eb2
 have HG2 : Hid (l.getD 2 [] = t2) := by show _ = _; rw [List.getD_eq_getElem?_getD, ht2]; rfl
 obtain ⟨z2, hz2⟩ : ∃ z, ba t2 = z := ⟨_, rfl⟩
 have HZ2 := Lib.hid hz2
 rw [hz2] at hc2
 have HC2 := Lib.hid hc2
 have x2 := (HQ1.out.bel.cell (p := ⟨b0, o0 + 2, none⟩) HB0.out).trans hc2
 have i2 : (2 : Int) < n := by omega
 clear hc2 ht2 hz2
 have t3 : ((n : Int) == 3) = true := by simp; omega
 rw [t3]
 have HM := Lib.hid hm
 clear hm t3
 refine HY.out.mono ?_
 rintro e w' ⟨rfl, rfl⟩
 go_wp2_with fail
 have HN1 : Hid (∀ V, Calls Tryz.prog 46 #[.string z1] V (TextP V t1 (nameB t1))) := fun V => by rw [← HZ1.out]; exact name_made V
 have HN2 : Hid (∀ V, Calls Tryz.prog 47 #[.string z2] V (TextP V t2 (fileB t2))) := fun V => by rw [← HZ2.out]; exact file_made V
 refine wp_region_held_drew (S := fun V => V.cell? ⟨b0, o0 + 1, none⟩ = some (.string z1) ∧ V.cell? ⟨b0, o0 + 2, none⟩ = some (.string z2)) (by kernel_rfl) ⟨x1, x2⟩ (fun hHeld => ?_)
 obtain ⟨V0, hV0⟩ : ∃ x, W1.drew = x := ⟨_, rfl⟩
 have HQ := Lib.hid (HQ1.out.on (Below.refl _ _).drew)
 rw [hV0] at HQ hHeld ⊢
 clear hV0
 refine wpAnyH_take (i := 0) (v := .slice (some ⟨b0, o0, none⟩) n c) rfl (by kernel_rfl) (by kernel_rfl) (by kernel_rfl) (fun _ _ _ h => bodyD_put (by decide) (by decide) h) (Or.inl ⟨by rfl, ?_⟩) hHeld ?_
 ·intro wz hSw; obtain ⟨s1, s2⟩ := hSw; go_simp
 try simp only [Act.put, List.getElem_toArray, List.getElem_cons_succ, List.getElem_cons_zero, List.setIfInBounds_toArray, List.set_cons_zero, List.set_cons_succ]
 refine wpAnyH_take (i := 1) (v := .pointer (some ⟨b0, o0 + 1, none⟩)) rfl (by kernel_rfl) (by kernel_rfl) (by kernel_rfl) (fun _ _ _ h => bodyD_put (by decide) (by decide) h) (Or.inl ⟨by rfl, ?_⟩) hHeld ?_
 ·intro wz hSw; obtain ⟨s1, s2⟩ := hSw; go_simp
 try simp only [Act.put, List.getElem_toArray, List.getElem_cons_succ, List.getElem_cons_zero, List.setIfInBounds_toArray, List.set_cons_zero, List.set_cons_succ]
 refine wpAnyH_take (i := 2) (v := .string z1) rfl (by kernel_rfl) (by kernel_rfl) (by kernel_rfl) (fun _ _ _ h => bodyD_put (by decide) (by decide) h) (Or.inl ⟨by rfl, ?_⟩) hHeld ?_
 ·intro wz hSw; obtain ⟨s1, s2⟩ := hSw; go_simp
 try simp only [Act.put, List.getElem_toArray, List.getElem_cons_succ, List.getElem_cons_zero, List.setIfInBounds_toArray, List.set_cons_zero, List.set_cons_succ]
 refine wpAnyH_take (i := 4) (v := .slice (some ⟨b0, o0, none⟩) n c) rfl (by kernel_rfl) (by kernel_rfl) (by kernel_rfl) (fun _ _ _ h => bodyD_put (by decide) (by decide) h) (Or.inl ⟨by rfl, ?_⟩) hHeld ?_
 ·intro wz hSw; obtain ⟨s1, s2⟩ := hSw; go_simp
 try simp only [Act.put, List.getElem_toArray, List.getElem_cons_succ, List.getElem_cons_zero, List.setIfInBounds_toArray, List.set_cons_zero, List.set_cons_succ]
 refine wpAnyH_take (i := 5) (v := .pointer (some ⟨b0, o0 + 2, none⟩)) rfl (by kernel_rfl) (by kernel_rfl) (by kernel_rfl) (fun _ _ _ h => bodyD_put (by decide) (by decide) h) (Or.inl ⟨by rfl, ?_⟩) hHeld ?_
 ·intro wz hSw; obtain ⟨s1, s2⟩ := hSw; go_simp
 try simp only [Act.put, List.getElem_toArray, List.getElem_cons_succ, List.getElem_cons_zero, List.setIfInBounds_toArray, List.set_cons_zero, List.set_cons_succ]
 refine wpAnyH_take (i := 6) (v := .string z2) rfl (by kernel_rfl) (by kernel_rfl) (by kernel_rfl) (fun _ _ _ h => bodyD_put (by decide) (by decide) h) (Or.inl ⟨by rfl, ?_⟩) hHeld ?_
 ·intro wz hSw; obtain ⟨s1, s2⟩ := hSw; go_simp
 try simp only [Act.put, List.getElem_toArray, List.getElem_cons_succ, List.getElem_cons_zero, List.setIfInBounds_toArray, List.set_cons_zero, List.set_cons_succ]
 refine wpAnyH_ready (rs := [3]) (by kernel_rfl) (by simp) ?_
 refine AllReadyH.cons rfl (fun K hK => ?_) AllReadyH.nil
 go_simp
 refine (HN1.out _).mono ?_
 rintro e V1 ⟨hbv, he⟩
 have HQ := Lib.hid (HQ.out.on (hbv.mono (by have := HQ.out.lt; omega)))
 clear hbv
 by_cases hn1 : ¬ (nameB t1 = true)
 ·rw [if_neg hn1] at he
  subst he
  have HE : Hid (r = none) := by show _ = _; rw [← HR.out]; rw [stepM_read H0.out, if_neg (fun h => hn1 (by rw [← HG1.out]; exact h.2.1))]
  rw [HE.out]
  exact door_bad rfl rfl HQ.out
 replace hn1 := Decidable.not_not.1 hn1
 rw [if_pos hn1] at he
 rw [HZ1.out] at he
 subst he
 have HHN1 := Lib.hid hn1
 clear hn1
 refine hK.out _ _ ⟨(HQ.out.bel.cell (p := ⟨b0, o0 + 1, none⟩) HB0.out).trans HC1.out, (HQ.out.bel.cell (p := ⟨b0, o0 + 2, none⟩) HB0.out).trans HC2.out⟩ (fun hHeld => ?_)
 clear hK K
 try simp only [Act.put, List.getElem_toArray, List.getElem_cons_succ, List.getElem_cons_zero, List.setIfInBounds_toArray, List.set_cons_zero, List.set_cons_succ]
 refine wpAnyH_take (i := 8) (v := .pointer (some ⟨w.heap.size, 2, none⟩)) rfl (by kernel_rfl) (by kernel_rfl) (by kernel_rfl) (fun _ _ _ h => bodyD_put (by decide) (by decide) h) (Or.inl ⟨by rfl, ?_⟩) hHeld ?_
 ·intro wz hSw; obtain ⟨s1, s2⟩ := hSw; go_simp
 try simp only [Act.put, List.getElem_toArray, List.getElem_cons_succ, List.getElem_cons_zero, List.setIfInBounds_toArray, List.set_cons_zero, List.set_cons_succ]
 refine wpAnyH_ready (rs := [7]) (by kernel_rfl) (by simp) ?_
 refine AllReadyH.cons rfl (fun K hK => ?_) AllReadyH.nil
 go_simp
 refine (HN2.out _).mono ?_
 rintro e V2 ⟨hbv, he⟩
 have HQ := Lib.hid (HQ.out.on (hbv.mono (by have := HQ.out.lt; omega)))
 clear hbv
 by_cases hn2 : ¬ (fileB t2 = true)
 ·rw [if_neg hn2] at he
  subst he
  have HE : Hid (r = none) := by show _ = _; rw [← HR.out]; rw [stepM_read H0.out, if_neg (fun h => hn2 (by rw [← HG2.out]; exact h.2.2))]
  rw [HE.out]
  exact door_bad rfl rfl HQ.out
 replace hn2 := Decidable.not_not.1 hn2
 rw [if_pos hn2] at he
 rw [HZ2.out] at he
 subst he
 have HHN2 := Lib.hid hn2
 clear hn2
 refine hK.out _ _ ⟨(HQ.out.bel.cell (p := ⟨b0, o0 + 1, none⟩) HB0.out).trans HC1.out, (HQ.out.bel.cell (p := ⟨b0, o0 + 2, none⟩) HB0.out).trans HC2.out⟩ (fun hHeld => ?_)
 clear hK K
 try simp only [Act.put, List.getElem_toArray, List.getElem_cons_succ, List.getElem_cons_zero, List.setIfInBounds_toArray, List.set_cons_zero, List.set_cons_succ]
 refine wpAnyH_ready (rs := [9]) (by kernel_rfl) (by simp) ?_
 refine AllReadyH.cons rfl (fun K hK => ?_) AllReadyH.nil
 have yc := HQ.out.cells.1
 have yf := HQ.out.cells.2.1 2
 obtain ⟨y1, y2, y3, y4, y5, -⟩ := yc
 have HQ := Lib.hid (HQ.out.setDst z1)
 obtain ⟨V3, hV⟩ : ∃ x, V2.setCell ⟨w.heap.size, 2, none⟩ (.string z1) = x := ⟨_, rfl⟩
 rw [hV] at HQ
 go_simp
 try rw [hV]
 clear hV y1 y2 y3 y4 y5 yf
 refine hK.out _ _ ⟨(HQ.out.bel.cell (p := ⟨b0, o0 + 1, none⟩) HB0.out).trans HC1.out, (HQ.out.bel.cell (p := ⟨b0, o0 + 2, none⟩) HB0.out).trans HC2.out⟩ (fun hHeld => ?_)
 clear hK K
 try simp only [Act.put, List.getElem_toArray, List.getElem_cons_succ, List.getElem_cons_zero, List.setIfInBounds_toArray, List.set_cons_zero, List.set_cons_succ]
 refine wpAnyH_take (i := 10) (v := .pointer (some ⟨w.heap.size, 4, none⟩)) rfl (by kernel_rfl) (by kernel_rfl) (by kernel_rfl) (fun _ _ _ h => bodyD_put (by decide) (by decide) h) (Or.inl ⟨by rfl, ?_⟩) hHeld ?_
 ·intro wz hSw; obtain ⟨s1, s2⟩ := hSw; go_simp
 try simp only [Act.put, List.getElem_toArray, List.getElem_cons_succ, List.getElem_cons_zero, List.setIfInBounds_toArray, List.set_cons_zero, List.set_cons_succ]
 refine wpAnyH_ready (rs := [11]) (by kernel_rfl) (by simp) ?_
 refine AllReadyH.cons rfl (fun K hK => ?_) AllReadyH.nil
 have yc := HQ.out.cells.1
 have yf := HQ.out.cells.2.1 4
 obtain ⟨y1, y2, y3, y4, y5, -⟩ := yc
 have HQ := Lib.hid (HQ.out.setFile z2)
 obtain ⟨V4, hV⟩ : ∃ x, V3.setCell ⟨w.heap.size, 4, none⟩ (.string z2) = x := ⟨_, rfl⟩
 rw [hV] at HQ
 go_simp
 try rw [hV]
 clear hV y1 y2 y3 y4 y5 yf
 refine hK.out _ _ ⟨(HQ.out.bel.cell (p := ⟨b0, o0 + 1, none⟩) HB0.out).trans HC1.out, (HQ.out.bel.cell (p := ⟨b0, o0 + 2, none⟩) HB0.out).trans HC2.out⟩ (fun hHeld => ?_)
 clear hK K
 try simp only [Act.put, List.getElem_toArray, List.getElem_cons_succ, List.getElem_cons_zero, List.setIfInBounds_toArray, List.set_cons_zero, List.set_cons_succ]
 refine wpAnyH_done (by kernel_rfl) ?_ _
 obtain ⟨SC, hSC⟩ : ∃ x, stC 0 zr z1 none 0 0 z2 none 0 0 = x := ⟨_, rfl⟩
 have HSC := Lib.hid hSC
 have hrow := HQ.out.s
 rw [hSC] at hrow
 have HROW := Lib.hid hrow
 have hsz6 : SC.size = 6 := by rw [← hSC]; rfl
 have HS6 := Lib.hid hsz6
 have hone : SC.all (·.oneCell') = true := by rw [← hSC]; exact stC_one _ _ _ _ _ _ _ _ _ _
 have HONE := Lib.hid hone
 clear hrow hsz6 hone hSC
 go_wp2_with (first | (refine wpList_load_row rfl 37 (.tmp 2) rfl w.heap.size rfl 37 SC (0, 0) _ HROW.out Tryz.underlying37 rfl (by rw [HS6.out]; exact infoSt) ?_) | (refine wpList_store_rowG rfl 37 (.tmp 2) (.tmp 33) rfl w.heap.size SC rfl rfl 37 SC HROW.out (by rw [HS6.out]; exact infoSt) rfl HONE.out ?_) | fail)
 intro W2 hr2 hg2
 rw [← HSC.out] at hr2
 obtain ⟨W3, hW3, k1, k2, HFIN⟩ := HQ.out.fin hr2 hg2
 clear hr2 hg2
 go_wp2_with fail
 try rw [hW3]
 obtain ⟨g1, g2, g3, g4⟩ := HFIN.out
 have HE : Hid (r = some ⟨readT, t1, [], t2, []⟩) := by show _ = _; rw [← HR.out]; rw [stepM_read H0.out, if_pos ⟨HLN.out.trans HM.out, by rw [HG1.out]; exact HHN1.out, by rw [HG2.out]; exact HHN2.out⟩, HG1.out, HG2.out]
 rw [HE.out]
 refine door_yes rfl rfl g3 (by show _ = some (Obj.cells (stC 0 (ba readT) (ba t1) none 0 0 (ba t2) none 0 0) 37 (0, 0)); rw [HZR.out, HZ1.out, HZ2.out]; exact g1) g2 (g4 _ _ _ _ (World.ownsRow_nil _ _ _ _)) (g4 _ _ _ _ (World.ownsRow_nil _ _ _ _))
end Go.Proofs.YtoofgblmpjndjaaGreatDoor.Scr
set_option linter.unusedVariables false
set_option linter.unusedSimpArgs false
namespace Go.Proofs.YtoofgblmpjndjaaGreatDoor.Scr
open Go.RowKit K Go.Lib

def subA (A : Option Addr) (a c : Nat) : Option Addr := if c = a then A else A.map (·.add a)
theorem run_from {P : Program} {t e : TypeId} (ht : P.underlying t = some (.slice e)) (hz : (P.info? e).map (·.size) = some 1) {A : Option Addr} {n c a : Nat} {i : Int} (hi : i = a) (ha : a ≤ n) (w : World) :
  (Instr.sliceAt t (.slice A n c) (some (.int .i64 i)) none none).run P w = .ok (.slice (subA A a c) (n - a) (c - a)) w := by
 subst hi
 have he : P.elem t = e := by unfold Program.elem; rw [ht]
 have ht' : P.underlying t = some (.slice (P.elem t)) := by rw [he]; exact ht
 have hs : ∀ w, (sizeOf (P.elem t)).run P w = .ok 1 w := fun w => by
  rw [he]
  obtain ⟨i, hi, hz1⟩ := Option.map_eq_some_iff.1 hz
  simp [sizeOf, typeInfo, hi, hz1]
 rw [run_sliceAt_slice _ _ _ _ _ _ ht', run_slice_l _ _ _ _ _ ht' .i64 (a : Int) (by omega) (by omega), hs]
 simp [Result.andThen, sliced, subA]
theorem run_part {P : Program} {t e : TypeId} (ht : P.underlying t = some (.slice e)) (hz : (P.info? e).map (·.size) = some 1) {A : Option Addr} {n c a m : Nat} {i j : Int} (hi : i = a) (hj : j = m) (ha : a ≤ m) (hm : m ≤ c) (w : World) :
  (Instr.sliceAt t (.slice A n c) (some (.int .i64 i)) (some (.int .i64 j)) none).run P w = .ok (.slice (subA A a c) (m - a) (c - a)) w := by
 subst hi hj
 have he : P.elem t = e := by unfold Program.elem; rw [ht]
 have ht' : P.underlying t = some (.slice (P.elem t)) := by rw [he]; exact ht
 have hs : ∀ w, (sizeOf (P.elem t)).run P w = .ok 1 w := fun w => by
  rw [he]
  obtain ⟨i, hi, hz1⟩ := Option.map_eq_some_iff.1 hz
  simp [sizeOf, typeInfo, hi, hz1]
 rw [run_sliceAt_slice _ _ _ _ _ _ ht', run_slice_lh _ _ _ _ _ ht' .i64 .i64 (a : Int) (m : Int) (by omega) (by omega) (by omega), hs]
 simp [Result.andThen, sliced, subA]
theorem szI : (Tryz.prog.info? 3).map (·.size) = some 1 := by kernel_rfl
theorem szS : (Tryz.prog.info? 9).map (·.size) = some 1 := by kernel_rfl
theorem slDrop {w : World} {A : Option Addr} {xs : List Value} {n a c : Nat} (h : Sl w A xs) (hl : xs.length = n) (ha : a ≤ n) (hc : n ≤ c) : Sl w (subA A a c) (xs.drop a) := fun j u hu => by
 rw [List.getElem?_drop] at hu
 have hlt : a + j < n := by have := (List.getElem?_eq_some_iff.1 hu).1; omega
 obtain ⟨b, off, rfl, hc2⟩ := h (a + j) u hu
 refine ⟨b, off + a, ?_, by rw [Nat.add_assoc]; exact hc2⟩
 unfold subA
 rw [if_neg (by omega), Option.map_some, Addr.add_lit]
theorem slTake {w : World} {A : Option Addr} {xs : List Value} (h : Sl w A xs) (m : Nat) : Sl w A (xs.take m) := fun j u hu => by
 refine h j u ?_
 rw [List.getElem?_take] at hu
 split at hu
 ·exact hu
 ·cases hu
theorem siDrop {w : World} {A : Option Addr} {n a c : Nat} {l : List Int} (h : SI w .i64 A n l) (ha : a ≤ n) (hc : n ≤ c) : SI w .i64 (subA A a c) (n - a) (l.drop a) :=
 ⟨by rw [List.length_drop, h.len], by have := h.big; simp only [kb]; omega, by rw [List.map_drop]; exact slDrop h.sl (by rw [List.length_map, h.len]) ha hc⟩
theorem ssDrop {w : World} {A : Option Addr} {n a c : Nat} {l : List Tx} (h : SS w A n l) (ha : a ≤ n) (hc : n ≤ c) : SS w (subA A a c) (n - a) (l.drop a) :=
 ⟨by rw [List.length_drop, h.len], by rw [List.map_drop]; exact slDrop h.sl (by rw [List.length_map, h.len]) ha hc, by have := h.sz; omega⟩
theorem ssTake {w : World} {A : Option Addr} {n m : Nat} {l : List Tx} (h : SS w A n l) (hm : m ≤ n) : SS w A m (l.take m) :=
 ⟨by rw [List.length_take, h.len]; omega, by rw [List.map_take]; exact slTake h.sl m, by have := h.sz; omega⟩
theorem fit2 {b0 b1 : Int × Int} {a : List Int} (h : fitM [b0, b1] a = true) : ∃ x y, a = [x, y] := by
 match a, h with
 | [x, y], _ => exact ⟨x, y, rfl⟩
 | [], h => simp [fitM] at h
 | [x], h => simp [fitM] at h
 | x :: y :: z :: r, h => simp [fitM] at h
theorem formatB_cons (k : Int) (r : List Int) : formatB (k :: r) =
  if k = 1 then fitM [(1, 6), (1, 65535)] r
  else if k = 2 then fitM [(0, 1)] r
  else if k = 3 then fitM [(0, 6), (8, 16)] r && [0, 2, 4, 6].contains (r.getD 0 0) && [8, 16].contains (r.getD 1 0)
  else if k = 4 then r.isEmpty
  else if k = 5 then fitM [(1, 32773), (8, 16)] r && [1, 5, 8, 32773].contains (r.getD 0 0) && [8, 16].contains (r.getD 1 0)
  else if k = 6 then fitM [(1, 100), (0, 2)] r
  else false := rfl
def BoolP (w : World) (b : Bool) (e : Ending) (w' : World) : Prop := e = .returned (.bool b) ∧ Below w.heap.size w w'
set_option maxRecDepth 20000 in
set_option maxHeartbeats 4000000 in
theorem rformat_any {A : Option Addr} {n c : Nat} {a : List Int} (w : World) (HA : SI w .i64 A n a) (hcap : n ≤ c) : Calls Tryz.prog 59 #[.slice A n c] w (BoolP w (formatB a)) := by
 obtain ⟨res, hres⟩ : ∃ r, formatB a = r := ⟨_, rfl⟩
 rw [hres]
 match a, HA, hres with
 | [], HA, hres =>
  obtain rfl : n = 0 := HA.len.symm
  have HE : Hid (res = false) := hres.symm
  clear HA hres
  go_enter Tryz.func59, Tryz.ntmps59
  go_wp2
  go_ret
  exact ⟨by rw [HE.out]; rfl, Below.refl _ _⟩
 | k :: r, HA, hres =>
  have hlen : r.length + 1 = n := HA.len
  have HRT : Hid (SI w .i64 (subA A 1 c) (n - 1) r) := by have := siDrop HA (a := 1) (c := c) (by omega) hcap; exact this
  have hsl := fun w => run_from (P := Tryz.prog) (t := 35) (e := 3) (n := n) (c := c) (A := A) (a := 1) (i := 1) Tryz.underlying35 szI rfl (by omega) w
  obtain ⟨kb0, ko, k', rfl, hk0, hkx, -⟩ := HA.cells (i := 0) (by omega)
  have hkk : k' = k := (Option.some.inj hkx.out).symm
  subst hkk
  rw [Nat.add_zero] at hk0
  have d0 : decide ((n : Int) < 1) = false := decide_eq_false (by omega)
  have d1 : decide (n < 1) = false := decide_eq_false (by omega)
  have n0 : (0 : Int) < n := by omega
  have nne : n ≠ 0 := by omega
  rw [formatB_cons] at hres
  obtain ⟨X, hX⟩ : ∃ x, subA (some ⟨kb0, ko, none⟩) 1 c = x := ⟨_, rfl⟩
  obtain ⟨m, hm⟩ : ∃ x, n - 1 = x := ⟨_, rfl⟩
  have HML : Hid (r.length = m) := by show _ = _; omega
  rw [hX, hm] at hsl HRT
  clear HA hkx hX hm hcap hlen
  by_cases h1 : k' = 1
  ·have e1 : (k' == 1) = true := beq_iff_eq.2 h1
   rw [if_pos h1] at hres
   have HE : Hid (res = fitM [(1, 6), (1, 65535)] r) := hres.symm
   clear hres h1
   go_enter Tryz.func59, Tryz.ntmps59
   have HSL := Lib.hid (Ard.SI.lit w [1, 6, 1, 65535] 3 (by decide))
   have HBL : Hid (Below w.heap.size w (w.alloc (.cells ([1, 6, 1, 65535].map (Value.int .i64)).toArray 3))) := (Below.refl _ w).alloc (Nat.le_refl _) _
   have HF := Lib.hid (Ard.fit_any (c := c - 1) (d := 4) (b := [(1, 6), (1, 65535)]) (bn := 2) (m := 4) (w.alloc (.cells ([1, 6, 1, 65535].map (Value.int .i64)).toArray 3)) (HRT.out.below HBL.out (Nat.le_refl _)) rfl rfl HSL.out (by decide))
   rw [fits_fit] at HF
   cases hfit : fitM [(1, 6), (1, 65535)] r
   ·rw [hfit] at HE HF
    have HE2 : Hid (res = false) := HE.out
    clear hfit HE
    go_wp2_with (first | (go_at_call 82; refine HF.out.mono ?_; rintro e w4 ⟨rfl, q, rfl⟩) | fail)
    go_ret
    exact ⟨by rw [HE2.out]; rfl, Go.Proofs.YtoofgblmpjndjaaGreatDoor.K.below_drewN HBL.out _⟩
   ·rw [hfit] at HE HF
    have HE2 : Hid (res = true) := HE.out
    clear hfit HE
    go_wp2_with (first | (go_at_call 82; refine HF.out.mono ?_; rintro e w4 ⟨rfl, q, rfl⟩) | fail)
    go_ret
    exact ⟨by rw [HE2.out]; rfl, Go.Proofs.YtoofgblmpjndjaaGreatDoor.K.below_drewN HBL.out _⟩
  ·have e1 : (k' == 1) = false := beq_eq_false_iff_ne.2 h1
   rw [if_neg h1] at hres
   clear h1
   by_cases h2 : k' = 2
   ·have e2 : (k' == 2) = true := beq_iff_eq.2 h2
    rw [if_pos h2] at hres
    have HE : Hid (res = fitM [(0, 1)] r) := hres.symm
    clear hres h2
    go_enter Tryz.func59, Tryz.ntmps59
    have HSL := Lib.hid (Ard.SI.lit w [0, 1] 3 (by decide))
    have HBL : Hid (Below w.heap.size w (w.alloc (.cells ([0, 1].map (Value.int .i64)).toArray 3))) := (Below.refl _ w).alloc (Nat.le_refl _) _
    have HF := Lib.hid (Ard.fit_any (c := c - 1) (d := 2) (b := [(0, 1)]) (bn := 1) (m := 2) (w.alloc (.cells ([0, 1].map (Value.int .i64)).toArray 3)) (HRT.out.below HBL.out (Nat.le_refl _)) rfl rfl HSL.out (by decide))
    rw [fits_fit] at HF
    cases hfit : fitM [(0, 1)] r
    ·rw [hfit] at HE HF
     have HE2 : Hid (res = false) := HE.out
     clear hfit HE
     go_wp2_with (first | (go_at_call 82; refine HF.out.mono ?_; rintro e w4 ⟨rfl, q, rfl⟩) | fail)
     go_ret
     exact ⟨by rw [HE2.out]; rfl, Go.Proofs.YtoofgblmpjndjaaGreatDoor.K.below_drewN HBL.out _⟩
    ·rw [hfit] at HE HF
     have HE2 : Hid (res = true) := HE.out
     clear hfit HE
     go_wp2_with (first | (go_at_call 82; refine HF.out.mono ?_; rintro e w4 ⟨rfl, q, rfl⟩) | fail)
     go_ret
     exact ⟨by rw [HE2.out]; rfl, Go.Proofs.YtoofgblmpjndjaaGreatDoor.K.below_drewN HBL.out _⟩
   ·have e2 : (k' == 2) = false := beq_eq_false_iff_ne.2 h2
    rw [if_neg h2] at hres
    clear h2
    by_cases h3 : k' = 3
    ·have e3 : (k' == 3) = true := beq_iff_eq.2 h3
     rw [if_pos h3] at hres
     have HE : Hid (res = (fitM [(0, 6), (8, 16)] r && [0, 2, 4, 6].contains (r.getD 0 0) && [8, 16].contains (r.getD 1 0))) := hres.symm
     clear hres h3
     go_enter Tryz.func59, Tryz.ntmps59
     have HSL := Lib.hid (Ard.SI.lit w [0, 6, 8, 16] 3 (by decide))
     have HBL : Hid (Below w.heap.size w (w.alloc (.cells ([0, 6, 8, 16].map (Value.int .i64)).toArray 3))) := (Below.refl _ w).alloc (Nat.le_refl _) _
     have HF := Lib.hid (Ard.fit_any (c := c - 1) (d := 4) (b := [(0, 6), (8, 16)]) (bn := 2) (m := 4) (w.alloc (.cells ([0, 6, 8, 16].map (Value.int .i64)).toArray 3)) (HRT.out.below HBL.out (Nat.le_refl _)) rfl rfl HSL.out (by decide))
     rw [fits_fit] at HF
     cases hfit : fitM [(0, 6), (8, 16)] r
     ·rw [hfit] at HE HF
      have HE2 : Hid (res = false) := HE.out
      clear hfit HE
      go_wp2_with (first | (go_at_call 82; refine HF.out.mono ?_; rintro e w4 ⟨rfl, q, rfl⟩) | fail)
      go_ret
      exact ⟨by rw [HE2.out]; rfl, Go.Proofs.YtoofgblmpjndjaaGreatDoor.K.below_drewN HBL.out _⟩
     ·obtain ⟨x, y, hr⟩ := fit2 hfit
      rw [hfit, hr] at HE
      rw [hfit] at HF
      have hln := HRT.out.len
      rw [hr] at hln
      have hm2 : m = 2 := hln.symm
      have HE3 : Hid (res = ([0, 2, 4, 6].contains x && [8, 16].contains y)) := by show _ = _; rw [HE.out]; rfl
      obtain ⟨ab, ao, x', hA2, hc0, hx0, -⟩ := HRT.out.cells (i := 0) (by omega)
      subst hA2
      obtain ⟨ab', ao', y', e', hc1, hx1, -⟩ := HRT.out.cells (i := 1) (by omega)
      injection e' with e'
      injection e' with e1 e2
      subst e1 e2
      rw [hr] at hx0 hx1
      have hxx : x' = x := (Option.some.inj hx0.out).symm
      have hyy : y' = y := (Option.some.inj hx1.out).symm
      rw [Nat.add_zero] at hc0
      subst hxx hyy
      have HCX : Hid (∀ W, Below w.heap.size w W → W.cell? ⟨ab, ao, none⟩ = some (.int .i64 x') ∧ W.cell? ⟨ab, ao + 1, none⟩ = some (.int .i64 y')) := fun W hb => ⟨(hb.cell (p := ⟨ab, ao, none⟩) (World.block_lt_of_cell? _ _ hc0)).trans hc0, (hb.cell (p := ⟨ab, ao + 1, none⟩) (World.block_lt_of_cell? _ _ hc1)).trans hc1⟩
      have i0 : (0 : Int) < m := by omega
      have i1 : (1 : Int) < m := by omega
      have hne : m ≠ 0 := by omega
      clear hc0 hc1 hx0 hx1 hln hm2 hfit hr HE
      by_cases x0 : x' = 0
      ·have q0 : (x' == 0) = true := beq_iff_eq.2 x0
       have qd0 : decide (x' = 0) = true := decide_eq_true x0
       by_cases y0 : y' = 8
       ·have p0 : (y' == 8) = true := beq_iff_eq.2 y0
        have HE2 : Hid (res = true) := by show _ = _; rw [HE3.out]; simp [x0, y0]
        clear x0 y0
        go_wp2_with (first | (go_at_call 82; refine HF.out.mono ?_; rintro e w4 ⟨rfl, q, rfl⟩; generalize hwq : World.drewN _ q = wq; have HBQ : Hid (Below w.heap.size w wq) := (by rw [← hwq]; exact Go.Proofs.YtoofgblmpjndjaaGreatDoor.K.below_drewN HBL.out q); obtain ⟨cx, cy⟩ := HCX.out _ HBQ.out; clear hwq) | fail)
        go_ret
        exact ⟨by rw [HE2.out]; rfl, HBQ.out⟩
       ·have p0 : (y' == 8) = false := beq_eq_false_iff_ne.2 y0
        by_cases y1 : y' = 16
        ·have p1 : (y' == 16) = true := beq_iff_eq.2 y1
         have HE2 : Hid (res = true) := by show _ = _; rw [HE3.out]; simp [x0, y0, y1]
         clear x0 y0 y1
         go_wp2_with (first | (go_at_call 82; refine HF.out.mono ?_; rintro e w4 ⟨rfl, q, rfl⟩; generalize hwq : World.drewN _ q = wq; have HBQ : Hid (Below w.heap.size w wq) := (by rw [← hwq]; exact Go.Proofs.YtoofgblmpjndjaaGreatDoor.K.below_drewN HBL.out q); obtain ⟨cx, cy⟩ := HCX.out _ HBQ.out; clear hwq) | fail)
         go_ret
         exact ⟨by rw [HE2.out]; rfl, HBQ.out⟩
        ·have p1 : (y' == 16) = false := beq_eq_false_iff_ne.2 y1
         have HE2 : Hid (res = false) := by show _ = _; rw [HE3.out]; simp [x0, y0, y1]
         clear x0 y0 y1
         go_wp2_with (first | (go_at_call 82; refine HF.out.mono ?_; rintro e w4 ⟨rfl, q, rfl⟩; generalize hwq : World.drewN _ q = wq; have HBQ : Hid (Below w.heap.size w wq) := (by rw [← hwq]; exact Go.Proofs.YtoofgblmpjndjaaGreatDoor.K.below_drewN HBL.out q); obtain ⟨cx, cy⟩ := HCX.out _ HBQ.out; clear hwq) | fail)
         go_ret
         exact ⟨by rw [HE2.out]; rfl, HBQ.out⟩
      ·have q0 : (x' == 0) = false := beq_eq_false_iff_ne.2 x0
       have qd0 : decide (x' = 0) = false := decide_eq_false x0
       by_cases x1 : x' = 2
       ·have q1 : (x' == 2) = true := beq_iff_eq.2 x1
        by_cases y0 : y' = 8
        ·have p0 : (y' == 8) = true := beq_iff_eq.2 y0
         have HE2 : Hid (res = true) := by show _ = _; rw [HE3.out]; simp [x0, x1, y0]
         clear x0 x1 y0
         go_wp2_with (first | (go_at_call 82; refine HF.out.mono ?_; rintro e w4 ⟨rfl, q, rfl⟩; generalize hwq : World.drewN _ q = wq; have HBQ : Hid (Below w.heap.size w wq) := (by rw [← hwq]; exact Go.Proofs.YtoofgblmpjndjaaGreatDoor.K.below_drewN HBL.out q); obtain ⟨cx, cy⟩ := HCX.out _ HBQ.out; clear hwq) | fail)
         go_ret
         exact ⟨by rw [HE2.out]; rfl, HBQ.out⟩
        ·have p0 : (y' == 8) = false := beq_eq_false_iff_ne.2 y0
         by_cases y1 : y' = 16
         ·have p1 : (y' == 16) = true := beq_iff_eq.2 y1
          have HE2 : Hid (res = true) := by show _ = _; rw [HE3.out]; simp [x0, x1, y0, y1]
          clear x0 x1 y0 y1
          go_wp2_with (first | (go_at_call 82; refine HF.out.mono ?_; rintro e w4 ⟨rfl, q, rfl⟩; generalize hwq : World.drewN _ q = wq; have HBQ : Hid (Below w.heap.size w wq) := (by rw [← hwq]; exact Go.Proofs.YtoofgblmpjndjaaGreatDoor.K.below_drewN HBL.out q); obtain ⟨cx, cy⟩ := HCX.out _ HBQ.out; clear hwq) | fail)
          go_ret
          exact ⟨by rw [HE2.out]; rfl, HBQ.out⟩
         ·have p1 : (y' == 16) = false := beq_eq_false_iff_ne.2 y1
          have HE2 : Hid (res = false) := by show _ = _; rw [HE3.out]; simp [x0, x1, y0, y1]
          clear x0 x1 y0 y1
          go_wp2_with (first | (go_at_call 82; refine HF.out.mono ?_; rintro e w4 ⟨rfl, q, rfl⟩; generalize hwq : World.drewN _ q = wq; have HBQ : Hid (Below w.heap.size w wq) := (by rw [← hwq]; exact Go.Proofs.YtoofgblmpjndjaaGreatDoor.K.below_drewN HBL.out q); obtain ⟨cx, cy⟩ := HCX.out _ HBQ.out; clear hwq) | fail)
          go_ret
          exact ⟨by rw [HE2.out]; rfl, HBQ.out⟩
       ·have q1 : (x' == 2) = false := beq_eq_false_iff_ne.2 x1
        by_cases x2 : x' = 4
        ·have q2 : (x' == 4) = true := beq_iff_eq.2 x2
         by_cases y0 : y' = 8
         ·have p0 : (y' == 8) = true := beq_iff_eq.2 y0
          have HE2 : Hid (res = true) := by show _ = _; rw [HE3.out]; simp [x0, x1, x2, y0]
          clear x0 x1 x2 y0
          go_wp2_with (first | (go_at_call 82; refine HF.out.mono ?_; rintro e w4 ⟨rfl, q, rfl⟩; generalize hwq : World.drewN _ q = wq; have HBQ : Hid (Below w.heap.size w wq) := (by rw [← hwq]; exact Go.Proofs.YtoofgblmpjndjaaGreatDoor.K.below_drewN HBL.out q); obtain ⟨cx, cy⟩ := HCX.out _ HBQ.out; clear hwq) | fail)
          go_ret
          exact ⟨by rw [HE2.out]; rfl, HBQ.out⟩
         ·have p0 : (y' == 8) = false := beq_eq_false_iff_ne.2 y0
          by_cases y1 : y' = 16
          ·have p1 : (y' == 16) = true := beq_iff_eq.2 y1
           have HE2 : Hid (res = true) := by show _ = _; rw [HE3.out]; simp [x0, x1, x2, y0, y1]
           clear x0 x1 x2 y0 y1
           go_wp2_with (first | (go_at_call 82; refine HF.out.mono ?_; rintro e w4 ⟨rfl, q, rfl⟩; generalize hwq : World.drewN _ q = wq; have HBQ : Hid (Below w.heap.size w wq) := (by rw [← hwq]; exact Go.Proofs.YtoofgblmpjndjaaGreatDoor.K.below_drewN HBL.out q); obtain ⟨cx, cy⟩ := HCX.out _ HBQ.out; clear hwq) | fail)
           go_ret
           exact ⟨by rw [HE2.out]; rfl, HBQ.out⟩
          ·have p1 : (y' == 16) = false := beq_eq_false_iff_ne.2 y1
           have HE2 : Hid (res = false) := by show _ = _; rw [HE3.out]; simp [x0, x1, x2, y0, y1]
           clear x0 x1 x2 y0 y1
           go_wp2_with (first | (go_at_call 82; refine HF.out.mono ?_; rintro e w4 ⟨rfl, q, rfl⟩; generalize hwq : World.drewN _ q = wq; have HBQ : Hid (Below w.heap.size w wq) := (by rw [← hwq]; exact Go.Proofs.YtoofgblmpjndjaaGreatDoor.K.below_drewN HBL.out q); obtain ⟨cx, cy⟩ := HCX.out _ HBQ.out; clear hwq) | fail)
           go_ret
           exact ⟨by rw [HE2.out]; rfl, HBQ.out⟩
        ·have q2 : (x' == 4) = false := beq_eq_false_iff_ne.2 x2
         by_cases x3 : x' = 6
         ·have q3 : (x' == 6) = true := beq_iff_eq.2 x3
          by_cases y0 : y' = 8
          ·have p0 : (y' == 8) = true := beq_iff_eq.2 y0
           have HE2 : Hid (res = true) := by show _ = _; rw [HE3.out]; simp [x0, x1, x2, x3, y0]
           clear x0 x1 x2 x3 y0
           go_wp2_with (first | (go_at_call 82; refine HF.out.mono ?_; rintro e w4 ⟨rfl, q, rfl⟩; generalize hwq : World.drewN _ q = wq; have HBQ : Hid (Below w.heap.size w wq) := (by rw [← hwq]; exact Go.Proofs.YtoofgblmpjndjaaGreatDoor.K.below_drewN HBL.out q); obtain ⟨cx, cy⟩ := HCX.out _ HBQ.out; clear hwq) | fail)
           go_ret
           exact ⟨by rw [HE2.out]; rfl, HBQ.out⟩
          ·have p0 : (y' == 8) = false := beq_eq_false_iff_ne.2 y0
           by_cases y1 : y' = 16
           ·have p1 : (y' == 16) = true := beq_iff_eq.2 y1
            have HE2 : Hid (res = true) := by show _ = _; rw [HE3.out]; simp [x0, x1, x2, x3, y0, y1]
            clear x0 x1 x2 x3 y0 y1
            go_wp2_with (first | (go_at_call 82; refine HF.out.mono ?_; rintro e w4 ⟨rfl, q, rfl⟩; generalize hwq : World.drewN _ q = wq; have HBQ : Hid (Below w.heap.size w wq) := (by rw [← hwq]; exact Go.Proofs.YtoofgblmpjndjaaGreatDoor.K.below_drewN HBL.out q); obtain ⟨cx, cy⟩ := HCX.out _ HBQ.out; clear hwq) | fail)
            go_ret
            exact ⟨by rw [HE2.out]; rfl, HBQ.out⟩
           ·have p1 : (y' == 16) = false := beq_eq_false_iff_ne.2 y1
            have HE2 : Hid (res = false) := by show _ = _; rw [HE3.out]; simp [x0, x1, x2, x3, y0, y1]
            clear x0 x1 x2 x3 y0 y1
            go_wp2_with (first | (go_at_call 82; refine HF.out.mono ?_; rintro e w4 ⟨rfl, q, rfl⟩; generalize hwq : World.drewN _ q = wq; have HBQ : Hid (Below w.heap.size w wq) := (by rw [← hwq]; exact Go.Proofs.YtoofgblmpjndjaaGreatDoor.K.below_drewN HBL.out q); obtain ⟨cx, cy⟩ := HCX.out _ HBQ.out; clear hwq) | fail)
            go_ret
            exact ⟨by rw [HE2.out]; rfl, HBQ.out⟩
         ·have q3 : (x' == 6) = false := beq_eq_false_iff_ne.2 x3
          have HE2 : Hid (res = false) := by show _ = _; rw [HE3.out]; simp [x0, x1, x2, x3]
          clear x0 x1 x2 x3
          go_wp2_with (first | (go_at_call 82; refine HF.out.mono ?_; rintro e w4 ⟨rfl, q, rfl⟩; generalize hwq : World.drewN _ q = wq; have HBQ : Hid (Below w.heap.size w wq) := (by rw [← hwq]; exact Go.Proofs.YtoofgblmpjndjaaGreatDoor.K.below_drewN HBL.out q); obtain ⟨cx, cy⟩ := HCX.out _ HBQ.out; clear hwq) | fail)
          go_ret
          exact ⟨by rw [HE2.out]; rfl, HBQ.out⟩
    ·have e3 : (k' == 3) = false := beq_eq_false_iff_ne.2 h3
     rw [if_neg h3] at hres
     clear h3
     by_cases h4 : k' = 4
     ·have e4 : (k' == 4) = true := beq_iff_eq.2 h4
      rw [if_pos h4] at hres
      cases r with
      | nil =>
       have hm0 : m = 0 := HML.out.symm
       subst hm0
       have HE : Hid (res = true) := hres.symm
       clear hres h4
       go_enter Tryz.func59, Tryz.ntmps59
       go_wp2_with fail
       go_ret
       exact ⟨by rw [HE.out]; rfl, Below.refl _ _⟩
      | cons x t =>
       have hm0 : ((m : Int) == 0) = false := beq_eq_false_iff_ne.2 (by have := HML.out; simp at this; omega)
       have hm1 : m ≠ 0 := by have := HML.out; simp at this; omega
       have HE : Hid (res = false) := hres.symm
       clear hres h4
       go_enter Tryz.func59, Tryz.ntmps59
       go_wp2_with fail
       go_ret
       exact ⟨by rw [HE.out]; rfl, Below.refl _ _⟩
     ·have e4 : (k' == 4) = false := beq_eq_false_iff_ne.2 h4
      rw [if_neg h4] at hres
      clear h4
      by_cases h5 : k' = 5
      ·have e5 : (k' == 5) = true := beq_iff_eq.2 h5
       rw [if_pos h5] at hres
       have HE : Hid (res = (fitM [(1, 32773), (8, 16)] r && [1, 5, 8, 32773].contains (r.getD 0 0) && [8, 16].contains (r.getD 1 0))) := hres.symm
       clear hres h5
       go_enter Tryz.func59, Tryz.ntmps59
       have HSL := Lib.hid (Ard.SI.lit w [1, 32773, 8, 16] 3 (by decide))
       have HBL : Hid (Below w.heap.size w (w.alloc (.cells ([1, 32773, 8, 16].map (Value.int .i64)).toArray 3))) := (Below.refl _ w).alloc (Nat.le_refl _) _
       have HF := Lib.hid (Ard.fit_any (c := c - 1) (d := 4) (b := [(1, 32773), (8, 16)]) (bn := 2) (m := 4) (w.alloc (.cells ([1, 32773, 8, 16].map (Value.int .i64)).toArray 3)) (HRT.out.below HBL.out (Nat.le_refl _)) rfl rfl HSL.out (by decide))
       rw [fits_fit] at HF
       cases hfit : fitM [(1, 32773), (8, 16)] r
       ·rw [hfit] at HE HF
        have HE2 : Hid (res = false) := HE.out
        clear hfit HE
        go_wp2_with (first | (go_at_call 82; refine HF.out.mono ?_; rintro e w4 ⟨rfl, q, rfl⟩) | fail)
        go_ret
        exact ⟨by rw [HE2.out]; rfl, Go.Proofs.YtoofgblmpjndjaaGreatDoor.K.below_drewN HBL.out _⟩
       ·obtain ⟨x, y, hr⟩ := fit2 hfit
        rw [hfit, hr] at HE
        rw [hfit] at HF
        have hln := HRT.out.len
        rw [hr] at hln
        have hm2 : m = 2 := hln.symm
        have HE3 : Hid (res = ([1, 5, 8, 32773].contains x && [8, 16].contains y)) := by show _ = _; rw [HE.out]; rfl
        obtain ⟨ab, ao, x', hA2, hc0, hx0, -⟩ := HRT.out.cells (i := 0) (by omega)
        subst hA2
        obtain ⟨ab', ao', y', e', hc1, hx1, -⟩ := HRT.out.cells (i := 1) (by omega)
        injection e' with e'
        injection e' with e1 e2
        subst e1 e2
        rw [hr] at hx0 hx1
        have hxx : x' = x := (Option.some.inj hx0.out).symm
        have hyy : y' = y := (Option.some.inj hx1.out).symm
        rw [Nat.add_zero] at hc0
        subst hxx hyy
        have HCX : Hid (∀ W, Below w.heap.size w W → W.cell? ⟨ab, ao, none⟩ = some (.int .i64 x') ∧ W.cell? ⟨ab, ao + 1, none⟩ = some (.int .i64 y')) := fun W hb => ⟨(hb.cell (p := ⟨ab, ao, none⟩) (World.block_lt_of_cell? _ _ hc0)).trans hc0, (hb.cell (p := ⟨ab, ao + 1, none⟩) (World.block_lt_of_cell? _ _ hc1)).trans hc1⟩
        have i0 : (0 : Int) < m := by omega
        have i1 : (1 : Int) < m := by omega
        have hne : m ≠ 0 := by omega
        clear hc0 hc1 hx0 hx1 hln hm2 hfit hr HE
        by_cases x0 : x' = 1
        ·have q0 : (x' == 1) = true := beq_iff_eq.2 x0
         by_cases y0 : y' = 8
         ·have p0 : (y' == 8) = true := beq_iff_eq.2 y0
          have HE2 : Hid (res = true) := by show _ = _; rw [HE3.out]; simp [x0, y0]
          clear x0 y0
          go_wp2_with (first | (go_at_call 82; refine HF.out.mono ?_; rintro e w4 ⟨rfl, q, rfl⟩; generalize hwq : World.drewN _ q = wq; have HBQ : Hid (Below w.heap.size w wq) := (by rw [← hwq]; exact Go.Proofs.YtoofgblmpjndjaaGreatDoor.K.below_drewN HBL.out q); obtain ⟨cx, cy⟩ := HCX.out _ HBQ.out; clear hwq) | fail)
          go_ret
          exact ⟨by rw [HE2.out]; rfl, HBQ.out⟩
         ·have p0 : (y' == 8) = false := beq_eq_false_iff_ne.2 y0
          by_cases y1 : y' = 16
          ·have p1 : (y' == 16) = true := beq_iff_eq.2 y1
           have HE2 : Hid (res = true) := by show _ = _; rw [HE3.out]; simp [x0, y0, y1]
           clear x0 y0 y1
           go_wp2_with (first | (go_at_call 82; refine HF.out.mono ?_; rintro e w4 ⟨rfl, q, rfl⟩; generalize hwq : World.drewN _ q = wq; have HBQ : Hid (Below w.heap.size w wq) := (by rw [← hwq]; exact Go.Proofs.YtoofgblmpjndjaaGreatDoor.K.below_drewN HBL.out q); obtain ⟨cx, cy⟩ := HCX.out _ HBQ.out; clear hwq) | fail)
           go_ret
           exact ⟨by rw [HE2.out]; rfl, HBQ.out⟩
          ·have p1 : (y' == 16) = false := beq_eq_false_iff_ne.2 y1
           have HE2 : Hid (res = false) := by show _ = _; rw [HE3.out]; simp [x0, y0, y1]
           clear x0 y0 y1
           go_wp2_with (first | (go_at_call 82; refine HF.out.mono ?_; rintro e w4 ⟨rfl, q, rfl⟩; generalize hwq : World.drewN _ q = wq; have HBQ : Hid (Below w.heap.size w wq) := (by rw [← hwq]; exact Go.Proofs.YtoofgblmpjndjaaGreatDoor.K.below_drewN HBL.out q); obtain ⟨cx, cy⟩ := HCX.out _ HBQ.out; clear hwq) | fail)
           go_ret
           exact ⟨by rw [HE2.out]; rfl, HBQ.out⟩
        ·have q0 : (x' == 1) = false := beq_eq_false_iff_ne.2 x0
         by_cases x1 : x' = 5
         ·have q1 : (x' == 5) = true := beq_iff_eq.2 x1
          by_cases y0 : y' = 8
          ·have p0 : (y' == 8) = true := beq_iff_eq.2 y0
           have HE2 : Hid (res = true) := by show _ = _; rw [HE3.out]; simp [x0, x1, y0]
           clear x0 x1 y0
           go_wp2_with (first | (go_at_call 82; refine HF.out.mono ?_; rintro e w4 ⟨rfl, q, rfl⟩; generalize hwq : World.drewN _ q = wq; have HBQ : Hid (Below w.heap.size w wq) := (by rw [← hwq]; exact Go.Proofs.YtoofgblmpjndjaaGreatDoor.K.below_drewN HBL.out q); obtain ⟨cx, cy⟩ := HCX.out _ HBQ.out; clear hwq) | fail)
           go_ret
           exact ⟨by rw [HE2.out]; rfl, HBQ.out⟩
          ·have p0 : (y' == 8) = false := beq_eq_false_iff_ne.2 y0
           by_cases y1 : y' = 16
           ·have p1 : (y' == 16) = true := beq_iff_eq.2 y1
            have HE2 : Hid (res = true) := by show _ = _; rw [HE3.out]; simp [x0, x1, y0, y1]
            clear x0 x1 y0 y1
            go_wp2_with (first | (go_at_call 82; refine HF.out.mono ?_; rintro e w4 ⟨rfl, q, rfl⟩; generalize hwq : World.drewN _ q = wq; have HBQ : Hid (Below w.heap.size w wq) := (by rw [← hwq]; exact Go.Proofs.YtoofgblmpjndjaaGreatDoor.K.below_drewN HBL.out q); obtain ⟨cx, cy⟩ := HCX.out _ HBQ.out; clear hwq) | fail)
            go_ret
            exact ⟨by rw [HE2.out]; rfl, HBQ.out⟩
           ·have p1 : (y' == 16) = false := beq_eq_false_iff_ne.2 y1
            have HE2 : Hid (res = false) := by show _ = _; rw [HE3.out]; simp [x0, x1, y0, y1]
            clear x0 x1 y0 y1
            go_wp2_with (first | (go_at_call 82; refine HF.out.mono ?_; rintro e w4 ⟨rfl, q, rfl⟩; generalize hwq : World.drewN _ q = wq; have HBQ : Hid (Below w.heap.size w wq) := (by rw [← hwq]; exact Go.Proofs.YtoofgblmpjndjaaGreatDoor.K.below_drewN HBL.out q); obtain ⟨cx, cy⟩ := HCX.out _ HBQ.out; clear hwq) | fail)
            go_ret
            exact ⟨by rw [HE2.out]; rfl, HBQ.out⟩
         ·have q1 : (x' == 5) = false := beq_eq_false_iff_ne.2 x1
          by_cases x2 : x' = 8
          ·have q2 : (x' == 8) = true := beq_iff_eq.2 x2
           by_cases y0 : y' = 8
           ·have p0 : (y' == 8) = true := beq_iff_eq.2 y0
            have HE2 : Hid (res = true) := by show _ = _; rw [HE3.out]; simp [x0, x1, x2, y0]
            clear x0 x1 x2 y0
            go_wp2_with (first | (go_at_call 82; refine HF.out.mono ?_; rintro e w4 ⟨rfl, q, rfl⟩; generalize hwq : World.drewN _ q = wq; have HBQ : Hid (Below w.heap.size w wq) := (by rw [← hwq]; exact Go.Proofs.YtoofgblmpjndjaaGreatDoor.K.below_drewN HBL.out q); obtain ⟨cx, cy⟩ := HCX.out _ HBQ.out; clear hwq) | fail)
            go_ret
            exact ⟨by rw [HE2.out]; rfl, HBQ.out⟩
           ·have p0 : (y' == 8) = false := beq_eq_false_iff_ne.2 y0
            by_cases y1 : y' = 16
            ·have p1 : (y' == 16) = true := beq_iff_eq.2 y1
             have HE2 : Hid (res = true) := by show _ = _; rw [HE3.out]; simp [x0, x1, x2, y0, y1]
             clear x0 x1 x2 y0 y1
             go_wp2_with (first | (go_at_call 82; refine HF.out.mono ?_; rintro e w4 ⟨rfl, q, rfl⟩; generalize hwq : World.drewN _ q = wq; have HBQ : Hid (Below w.heap.size w wq) := (by rw [← hwq]; exact Go.Proofs.YtoofgblmpjndjaaGreatDoor.K.below_drewN HBL.out q); obtain ⟨cx, cy⟩ := HCX.out _ HBQ.out; clear hwq) | fail)
             go_ret
             exact ⟨by rw [HE2.out]; rfl, HBQ.out⟩
            ·have p1 : (y' == 16) = false := beq_eq_false_iff_ne.2 y1
             have HE2 : Hid (res = false) := by show _ = _; rw [HE3.out]; simp [x0, x1, x2, y0, y1]
             clear x0 x1 x2 y0 y1
             go_wp2_with (first | (go_at_call 82; refine HF.out.mono ?_; rintro e w4 ⟨rfl, q, rfl⟩; generalize hwq : World.drewN _ q = wq; have HBQ : Hid (Below w.heap.size w wq) := (by rw [← hwq]; exact Go.Proofs.YtoofgblmpjndjaaGreatDoor.K.below_drewN HBL.out q); obtain ⟨cx, cy⟩ := HCX.out _ HBQ.out; clear hwq) | fail)
             go_ret
             exact ⟨by rw [HE2.out]; rfl, HBQ.out⟩
          ·have q2 : (x' == 8) = false := beq_eq_false_iff_ne.2 x2
           by_cases x3 : x' = 32773
           ·have q3 : (x' == 32773) = true := beq_iff_eq.2 x3
            by_cases y0 : y' = 8
            ·have p0 : (y' == 8) = true := beq_iff_eq.2 y0
             have HE2 : Hid (res = true) := by show _ = _; rw [HE3.out]; simp [x0, x1, x2, x3, y0]
             clear x0 x1 x2 x3 y0
             go_wp2_with (first | (go_at_call 82; refine HF.out.mono ?_; rintro e w4 ⟨rfl, q, rfl⟩; generalize hwq : World.drewN _ q = wq; have HBQ : Hid (Below w.heap.size w wq) := (by rw [← hwq]; exact Go.Proofs.YtoofgblmpjndjaaGreatDoor.K.below_drewN HBL.out q); obtain ⟨cx, cy⟩ := HCX.out _ HBQ.out; clear hwq) | fail)
             go_ret
             exact ⟨by rw [HE2.out]; rfl, HBQ.out⟩
            ·have p0 : (y' == 8) = false := beq_eq_false_iff_ne.2 y0
             by_cases y1 : y' = 16
             ·have p1 : (y' == 16) = true := beq_iff_eq.2 y1
              have HE2 : Hid (res = true) := by show _ = _; rw [HE3.out]; simp [x0, x1, x2, x3, y0, y1]
              clear x0 x1 x2 x3 y0 y1
              go_wp2_with (first | (go_at_call 82; refine HF.out.mono ?_; rintro e w4 ⟨rfl, q, rfl⟩; generalize hwq : World.drewN _ q = wq; have HBQ : Hid (Below w.heap.size w wq) := (by rw [← hwq]; exact Go.Proofs.YtoofgblmpjndjaaGreatDoor.K.below_drewN HBL.out q); obtain ⟨cx, cy⟩ := HCX.out _ HBQ.out; clear hwq) | fail)
              go_ret
              exact ⟨by rw [HE2.out]; rfl, HBQ.out⟩
             ·have p1 : (y' == 16) = false := beq_eq_false_iff_ne.2 y1
              have HE2 : Hid (res = false) := by show _ = _; rw [HE3.out]; simp [x0, x1, x2, x3, y0, y1]
              clear x0 x1 x2 x3 y0 y1
              go_wp2_with (first | (go_at_call 82; refine HF.out.mono ?_; rintro e w4 ⟨rfl, q, rfl⟩; generalize hwq : World.drewN _ q = wq; have HBQ : Hid (Below w.heap.size w wq) := (by rw [← hwq]; exact Go.Proofs.YtoofgblmpjndjaaGreatDoor.K.below_drewN HBL.out q); obtain ⟨cx, cy⟩ := HCX.out _ HBQ.out; clear hwq) | fail)
              go_ret
              exact ⟨by rw [HE2.out]; rfl, HBQ.out⟩
           ·have q3 : (x' == 32773) = false := beq_eq_false_iff_ne.2 x3
            have HE2 : Hid (res = false) := by show _ = _; rw [HE3.out]; simp [x0, x1, x2, x3]
            clear x0 x1 x2 x3
            go_wp2_with (first | (go_at_call 82; refine HF.out.mono ?_; rintro e w4 ⟨rfl, q, rfl⟩; generalize hwq : World.drewN _ q = wq; have HBQ : Hid (Below w.heap.size w wq) := (by rw [← hwq]; exact Go.Proofs.YtoofgblmpjndjaaGreatDoor.K.below_drewN HBL.out q); obtain ⟨cx, cy⟩ := HCX.out _ HBQ.out; clear hwq) | fail)
            go_ret
            exact ⟨by rw [HE2.out]; rfl, HBQ.out⟩
      ·have e5 : (k' == 5) = false := beq_eq_false_iff_ne.2 h5
       rw [if_neg h5] at hres
       clear h5
       by_cases h6 : k' = 6
       ·have e6 : (k' == 6) = true := beq_iff_eq.2 h6
        rw [if_pos h6] at hres
        have HE : Hid (res = fitM [(1, 100), (0, 2)] r) := hres.symm
        clear hres h6
        go_enter Tryz.func59, Tryz.ntmps59
        have HSL := Lib.hid (Ard.SI.lit w [1, 100, 0, 2] 3 (by decide))
        have HBL : Hid (Below w.heap.size w (w.alloc (.cells ([1, 100, 0, 2].map (Value.int .i64)).toArray 3))) := (Below.refl _ w).alloc (Nat.le_refl _) _
        have HF := Lib.hid (Ard.fit_any (c := c - 1) (d := 4) (b := [(1, 100), (0, 2)]) (bn := 2) (m := 4) (w.alloc (.cells ([1, 100, 0, 2].map (Value.int .i64)).toArray 3)) (HRT.out.below HBL.out (Nat.le_refl _)) rfl rfl HSL.out (by decide))
        rw [fits_fit] at HF
        cases hfit : fitM [(1, 100), (0, 2)] r
        ·rw [hfit] at HE HF
         have HE2 : Hid (res = false) := HE.out
         clear hfit HE
         go_wp2_with (first | (go_at_call 82; refine HF.out.mono ?_; rintro e w4 ⟨rfl, q, rfl⟩) | fail)
         go_ret
         exact ⟨by rw [HE2.out]; rfl, Go.Proofs.YtoofgblmpjndjaaGreatDoor.K.below_drewN HBL.out _⟩
        ·rw [hfit] at HE HF
         have HE2 : Hid (res = true) := HE.out
         clear hfit HE
         go_wp2_with (first | (go_at_call 82; refine HF.out.mono ?_; rintro e w4 ⟨rfl, q, rfl⟩) | fail)
         go_ret
         exact ⟨by rw [HE2.out]; rfl, Go.Proofs.YtoofgblmpjndjaaGreatDoor.K.below_drewN HBL.out _⟩
       ·have e6 : (k' == 6) = false := beq_eq_false_iff_ne.2 h6
        rw [if_neg h6] at hres
        clear h6
        have HE : Hid (res = false) := hres.symm
        clear hres
        go_enter Tryz.func59, Tryz.ntmps59
        go_wp2_with fail
        go_ret
        exact ⟨by rw [HE.out]; rfl, Below.refl _ _⟩
theorem fit6 {a : List Int} (h : fitM [(1, 4096), (1, 4096), (0, 65535), (0, 65535), (0, 65535), (0, 65535)] a = true) : ∃ x y r, a = x :: y :: r ∧ 1 ≤ x ∧ x ≤ 4096 ∧ 1 ≤ y ∧ y ≤ 4096 := by
 match a, h with
 | [], h => simp [fitM] at h
 | [x], h => simp [fitM] at h
 | x :: y :: r, h =>
  have h' : (within (1, 4096) x && (within (1, 4096) y && fitM [(0, 65535), (0, 65535), (0, 65535), (0, 65535)] r)) = true := h
  simp only [Bool.and_eq_true, within, decide_eq_true_eq] at h'
  exact ⟨x, y, r, rfl, h'.1.1, h'.1.2, h'.2.1.1, h'.2.1.2⟩
set_option maxRecDepth 20000 in
set_option maxHeartbeats 4000000 in
theorem rfill_any {A : Option Addr} {n c : Nat} {a : List Int} (w : World) (HA : SI w .i64 A n a) : Calls Tryz.prog 60 #[.slice A n c] w (BoolP w (fillB a)) := by
 obtain ⟨res, hres⟩ : ∃ r, fillB a = r := ⟨_, rfl⟩
 rw [hres]
 have HR := Lib.hid hres
 have HAA := Lib.hid HA
 have HSL := Lib.hid (Ard.SI.lit w.drew [1, 4096, 1, 4096, 0, 65535, 0, 65535, 0, 65535, 0, 65535] 3 (by decide))
 have HB1 : Hid (Below w.heap.size w (w.drew.alloc (.cells ([1, 4096, 1, 4096, 0, 65535, 0, 65535, 0, 65535, 0, 65535].map (Value.int .i64)).toArray 3))) := ((Below.refl _ w).drew).alloc (Nat.le_refl _) _
 clear HA hres
 cases hfit : fitM [(1, 4096), (1, 4096), (0, 65535), (0, 65535), (0, 65535), (0, 65535)] a with
 | false =>
  have HFT := Lib.hid hfit
  have HE : Hid (res = false) := by show _ = _; rw [← HR.out]; unfold fillB; rw [hfit]; rfl
  clear hfit
  go_enter Tryz.func60, Tryz.ntmps60
  go_upto_region 1 with (fail)
  refine wp_region_held_drew (S := fun _ => True) (by kernel_rfl) trivial (fun hHeld => ?_)
  refine wpAnyH_take (i := 0) (v := .slice A n c) rfl (by kernel_rfl) (by kernel_rfl) (by kernel_rfl) (fun _ _ _ h => h) (Or.inl ⟨by rfl, ?_⟩) hHeld ?_
  ·intro wz hSw; go_simp
  try simp only [Act.put, List.getElem_toArray, List.getElem_cons_succ, List.getElem_cons_zero, List.setIfInBounds_toArray, List.set_cons_zero, List.set_cons_succ]
  refine wpAnyH_ready (rs := [1]) (by kernel_rfl) (by simp) ?_
  refine AllReadyH.cons rfl (fun K hK => ?_) AllReadyH.nil
  go_simp
  refine hK.out _ _ trivial (fun hHeld => ?_)
  clear hK K
  try simp only [Act.put, List.getElem_toArray, List.getElem_cons_succ, List.getElem_cons_zero, List.setIfInBounds_toArray, List.set_cons_zero, List.set_cons_succ]
  refine wpAnyH_ready (rs := [2]) (by kernel_rfl) (by simp) ?_
  refine AllReadyH.cons rfl (fun K hK => ?_) AllReadyH.nil
  go_simp
  refine (Ard.fit_any (c := c) (d := 12) (b := [(1, 4096), (1, 4096), (0, 65535), (0, 65535), (0, 65535), (0, 65535)]) (bn := 6) (m := 12) _ (HAA.out.below HB1.out (Nat.le_refl _)) rfl rfl HSL.out (by decide)).mono ?_
  rintro e w4 ⟨rfl, q, rfl⟩
  rw [fits_fit, HFT.out]
  generalize hwq : World.drewN _ q = wq
  have HB4 : Hid (Below w.heap.size w wq) := by rw [← hwq]; exact Go.Proofs.YtoofgblmpjndjaaGreatDoor.K.below_drewN HB1.out q
  clear hwq
  refine hK.out _ _ trivial (fun hHeld => ?_)
  clear hK K
  try simp only [Act.put, List.getElem_toArray, List.getElem_cons_succ, List.getElem_cons_zero, List.setIfInBounds_toArray, List.set_cons_zero, List.set_cons_succ]
  refine wpAnyH_take (i := 3) (v := .bool false) rfl (by kernel_rfl) (by kernel_rfl) (by kernel_rfl) (fun _ _ _ h => h) (Or.inl ⟨by rfl, ?_⟩) hHeld ?_
  ·intro wz hSw; go_simp
  try simp only [Act.put, List.getElem_toArray, List.getElem_cons_succ, List.getElem_cons_zero, List.setIfInBounds_toArray, List.set_cons_zero, List.set_cons_succ]
  refine Ord.held_skip (i := 4) (d := 7) rfl rfl (by kernel_rfl) (by kernel_rfl) (by kernel_rfl) (fun _ _ _ h => h) (by kernel_rfl) hHeld ?_
  try simp only [Act.put, List.getElem_toArray, List.getElem_cons_succ, List.getElem_cons_zero, List.setIfInBounds_toArray, List.set_cons_zero, List.set_cons_succ]
  refine Ord.held_skip (i := 5) (d := 8) rfl rfl (by kernel_rfl) (by kernel_rfl) (by kernel_rfl) (fun _ _ _ h => h) (by kernel_rfl) hHeld ?_
  try simp only [Act.put, List.getElem_toArray, List.getElem_cons_succ, List.getElem_cons_zero, List.setIfInBounds_toArray, List.set_cons_zero, List.set_cons_succ]
  refine Ord.held_skip (i := 6) (d := 9) rfl rfl (by kernel_rfl) (by kernel_rfl) (by kernel_rfl) (fun _ _ _ h => h) (by kernel_rfl) hHeld ?_
  try simp only [Act.put, List.getElem_toArray, List.getElem_cons_succ, List.getElem_cons_zero, List.setIfInBounds_toArray, List.set_cons_zero, List.set_cons_succ]
  refine Ord.held_skip (i := 7) (d := 10) rfl rfl (by kernel_rfl) (by kernel_rfl) (by kernel_rfl) (fun _ _ _ h => h) (by kernel_rfl) hHeld ?_
  try simp only [Act.put, List.getElem_toArray, List.getElem_cons_succ, List.getElem_cons_zero, List.setIfInBounds_toArray, List.set_cons_zero, List.set_cons_succ]
  refine Ord.held_skip (i := 8) (d := 11) rfl rfl (by kernel_rfl) (by kernel_rfl) (by kernel_rfl) (fun _ _ _ h => h) (by kernel_rfl) hHeld ?_
  try simp only [Act.put, List.getElem_toArray, List.getElem_cons_succ, List.getElem_cons_zero, List.setIfInBounds_toArray, List.set_cons_zero, List.set_cons_succ]
  refine Ord.held_skip (i := 9) (d := 12) rfl rfl (by kernel_rfl) (by kernel_rfl) (by kernel_rfl) (fun _ _ _ h => h) (by kernel_rfl) hHeld ?_
  try simp only [Act.put, List.getElem_toArray, List.getElem_cons_succ, List.getElem_cons_zero, List.setIfInBounds_toArray, List.set_cons_zero, List.set_cons_succ]
  refine Ord.held_skip (i := 10) (d := 13) rfl rfl (by kernel_rfl) (by kernel_rfl) (by kernel_rfl) (fun _ _ _ h => h) (by kernel_rfl) hHeld ?_
  try simp only [Act.put, List.getElem_toArray, List.getElem_cons_succ, List.getElem_cons_zero, List.setIfInBounds_toArray, List.set_cons_zero, List.set_cons_succ]
  refine Ord.held_skip (i := 11) (d := 14) rfl rfl (by kernel_rfl) (by kernel_rfl) (by kernel_rfl) (fun _ _ _ h => h) (by kernel_rfl) hHeld ?_
  try simp only [Act.put, List.getElem_toArray, List.getElem_cons_succ, List.getElem_cons_zero, List.setIfInBounds_toArray, List.set_cons_zero, List.set_cons_succ]
  refine wpAnyH_take (i := 12) (v := .bool false) rfl (by kernel_rfl) (by kernel_rfl) (by kernel_rfl) (fun _ _ _ h => h) (Or.inl ⟨by rfl, ?_⟩) hHeld ?_
  ·intro wz hSw; go_simp
  try simp only [Act.put, List.getElem_toArray, List.getElem_cons_succ, List.getElem_cons_zero, List.setIfInBounds_toArray, List.set_cons_zero, List.set_cons_succ]
  refine wpAnyH_take (i := 13) (v := .bool false) rfl (by kernel_rfl) (by kernel_rfl) (by kernel_rfl) (fun _ _ _ h => h) (Or.inl ⟨by rfl, ?_⟩) hHeld ?_
  ·intro wz hSw; go_simp
  try simp only [Act.put, List.getElem_toArray, List.getElem_cons_succ, List.getElem_cons_zero, List.setIfInBounds_toArray, List.set_cons_zero, List.set_cons_succ]
  refine wpAnyH_done (by kernel_rfl) ?_ _
  go_wp2_with fail
  go_ret
  exact ⟨by rw [HE.out]; rfl, HB4.out⟩
 | true =>
  have HFT := Lib.hid hfit
  obtain ⟨x, y, r, ha, x0, x1, y0, y1⟩ := fit6 hfit
  have HEE : Hid (res = decide (x * y ≤ 65536)) := by show _ = _; rw [← HR.out]; unfold fillB; rw [hfit, ha]; rfl
  have hlen := HAA.out.len
  rw [ha] at hlen
  simp only [List.length_cons] at hlen
  obtain ⟨ab, ao, x', hA2, hc0, hx0, -⟩ := HAA.out.cells (i := 0) (by omega)
  subst hA2
  obtain ⟨ab', ao', y', e', hc1, hx1, -⟩ := HAA.out.cells (i := 1) (by omega)
  injection e' with e'
  injection e' with e1 e2
  subst e1 e2
  rw [ha] at hx0 hx1
  have hxx : x' = x := (Option.some.inj hx0.out).symm
  have hyy : y' = y := (Option.some.inj hx1.out).symm
  rw [Nat.add_zero] at hc0
  subst hxx hyy
  have HCX : Hid (∀ W, Below w.heap.size w W → W.cell? ⟨ab, ao, none⟩ = some (.int .i64 x') ∧ W.cell? ⟨ab, ao + 1, none⟩ = some (.int .i64 y')) := fun W hb => ⟨(hb.cell (p := ⟨ab, ao, none⟩) (World.block_lt_of_cell? _ _ hc0)).trans hc0, (hb.cell (p := ⟨ab, ao + 1, none⟩) (World.block_lt_of_cell? _ _ hc1)).trans hc1⟩
  have i0 : (0 : Int) < n := by omega
  have i1 : (1 : Int) < n := by omega
  have hne : n ≠ 0 := by omega
  have hpp : x' * y' ≤ 16777216 ∧ 0 ≤ x' * y' := by
   refine ⟨?_, Int.mul_nonneg (by omega) (by omega)⟩
   have := Int.mul_le_mul x1 y1 (by omega) (by omega)
   omega
  obtain ⟨p, hp⟩ : ∃ p, x' * y' = p := ⟨_, rfl⟩
  rw [hp] at hpp HEE
  have w1 : wrap64 (x' * y') = p := by rw [hp, IntWalk.wrap64_in _ (by omega)]
  have w2 : IntKind.i64.wrap (x' * y') = p := by clear w1; rw [hp, IntWalk.i64_in _ (by omega)]
  clear hc0 hc1 hx0 hx1 hlen hfit ha x0 x1 y0 y1 hp
  cases hok : decide (p ≤ 65536) with
  | true =>
   have HE : Hid (res = true) := by show _ = _; rw [HEE.out, hok]
   clear hpp
   go_enter Tryz.func60, Tryz.ntmps60
   go_upto_region 1 with (fail)
   refine wp_region_held_drew (S := fun w' => w'.cell? ⟨ab, ao, none⟩ = some (.int .i64 x') ∧ w'.cell? ⟨ab, ao + 1, none⟩ = some (.int .i64 y')) (by kernel_rfl) (HCX.out _ ((Below.refl _ w).drew)) (fun hHeld => ?_)
   refine wpAnyH_take (i := 0) (v := .slice (some ⟨ab, ao, none⟩) n c) rfl (by kernel_rfl) (by kernel_rfl) (by kernel_rfl) (fun _ _ _ h => h) (Or.inl ⟨by rfl, ?_⟩) hHeld ?_
   ·intro wz hSw; obtain ⟨s0, s1⟩ := hSw; go_simp
   try simp only [Act.put, List.getElem_toArray, List.getElem_cons_succ, List.getElem_cons_zero, List.setIfInBounds_toArray, List.set_cons_zero, List.set_cons_succ]
   refine wpAnyH_ready (rs := [1]) (by kernel_rfl) (by simp) ?_
   refine AllReadyH.cons rfl (fun K hK => ?_) AllReadyH.nil
   go_simp
   refine hK.out _ _ (HCX.out _ HB1.out) (fun hHeld => ?_)
   clear hK K
   try simp only [Act.put, List.getElem_toArray, List.getElem_cons_succ, List.getElem_cons_zero, List.setIfInBounds_toArray, List.set_cons_zero, List.set_cons_succ]
   refine wpAnyH_ready (rs := [2]) (by kernel_rfl) (by simp) ?_
   refine AllReadyH.cons rfl (fun K hK => ?_) AllReadyH.nil
   go_simp
   refine (Ard.fit_any (c := c) (d := 12) (b := [(1, 4096), (1, 4096), (0, 65535), (0, 65535), (0, 65535), (0, 65535)]) (bn := 6) (m := 12) _ (HAA.out.below HB1.out (Nat.le_refl _)) rfl rfl HSL.out (by decide)).mono ?_
   rintro e w4 ⟨rfl, q, rfl⟩
   rw [fits_fit, HFT.out]
   generalize hwq : World.drewN _ q = wq
   have HB4 : Hid (Below w.heap.size w wq) := by rw [← hwq]; exact Go.Proofs.YtoofgblmpjndjaaGreatDoor.K.below_drewN HB1.out q
   clear hwq
   refine hK.out _ _ (HCX.out _ HB4.out) (fun hHeld => ?_)
   clear hK K
   try simp only [Act.put, List.getElem_toArray, List.getElem_cons_succ, List.getElem_cons_zero, List.setIfInBounds_toArray, List.set_cons_zero, List.set_cons_succ]
   refine wpAnyH_take (i := 3) (v := .bool true) rfl (by kernel_rfl) (by kernel_rfl) (by kernel_rfl) (fun _ _ _ h => h) (Or.inl ⟨by rfl, ?_⟩) hHeld ?_
   ·intro wz hSw; obtain ⟨s0, s1⟩ := hSw; go_simp
   try simp only [Act.put, List.getElem_toArray, List.getElem_cons_succ, List.getElem_cons_zero, List.setIfInBounds_toArray, List.set_cons_zero, List.set_cons_succ]
   refine wpAnyH_take (i := 4) (v := .slice (some ⟨ab, ao, none⟩) n c) rfl (by kernel_rfl) (by kernel_rfl) (by kernel_rfl) (fun _ _ _ h => h) (Or.inl ⟨by kernel_rfl, ?_⟩) hHeld ?_
   ·intro wz hSw; obtain ⟨s0, s1⟩ := hSw; go_simp
   try simp only [Act.put, List.getElem_toArray, List.getElem_cons_succ, List.getElem_cons_zero, List.setIfInBounds_toArray, List.set_cons_zero, List.set_cons_succ]
   refine wpAnyH_take (i := 5) (v := .pointer (some ⟨ab, ao, none⟩)) rfl (by kernel_rfl) (by kernel_rfl) (by kernel_rfl) (fun _ _ _ h => h) (Or.inl ⟨by kernel_rfl, ?_⟩) hHeld ?_
   ·intro wz hSw; obtain ⟨s0, s1⟩ := hSw; go_simp
   try simp only [Act.put, List.getElem_toArray, List.getElem_cons_succ, List.getElem_cons_zero, List.setIfInBounds_toArray, List.set_cons_zero, List.set_cons_succ]
   refine wpAnyH_take (i := 6) (v := .int .i64 x') rfl (by kernel_rfl) (by kernel_rfl) (by kernel_rfl) (fun _ _ _ h => h) (Or.inl ⟨by kernel_rfl, ?_⟩) hHeld ?_
   ·intro wz hSw; obtain ⟨s0, s1⟩ := hSw; go_simp
   try simp only [Act.put, List.getElem_toArray, List.getElem_cons_succ, List.getElem_cons_zero, List.setIfInBounds_toArray, List.set_cons_zero, List.set_cons_succ]
   refine wpAnyH_take (i := 7) (v := .slice (some ⟨ab, ao, none⟩) n c) rfl (by kernel_rfl) (by kernel_rfl) (by kernel_rfl) (fun _ _ _ h => h) (Or.inl ⟨by kernel_rfl, ?_⟩) hHeld ?_
   ·intro wz hSw; obtain ⟨s0, s1⟩ := hSw; go_simp
   try simp only [Act.put, List.getElem_toArray, List.getElem_cons_succ, List.getElem_cons_zero, List.setIfInBounds_toArray, List.set_cons_zero, List.set_cons_succ]
   refine wpAnyH_take (i := 8) (v := .pointer (some ⟨ab, ao + 1, none⟩)) rfl (by kernel_rfl) (by kernel_rfl) (by kernel_rfl) (fun _ _ _ h => h) (Or.inl ⟨by kernel_rfl, ?_⟩) hHeld ?_
   ·intro wz hSw; obtain ⟨s0, s1⟩ := hSw; go_simp
   try simp only [Act.put, List.getElem_toArray, List.getElem_cons_succ, List.getElem_cons_zero, List.setIfInBounds_toArray, List.set_cons_zero, List.set_cons_succ]
   refine wpAnyH_take (i := 9) (v := .int .i64 y') rfl (by kernel_rfl) (by kernel_rfl) (by kernel_rfl) (fun _ _ _ h => h) (Or.inl ⟨by kernel_rfl, ?_⟩) hHeld ?_
   ·intro wz hSw; obtain ⟨s0, s1⟩ := hSw; go_simp
   try simp only [Act.put, List.getElem_toArray, List.getElem_cons_succ, List.getElem_cons_zero, List.setIfInBounds_toArray, List.set_cons_zero, List.set_cons_succ]
   refine wpAnyH_take (i := 10) (v := .int .i64 p) rfl (by kernel_rfl) (by kernel_rfl) (by kernel_rfl) (fun _ _ _ h => h) (Or.inl ⟨by kernel_rfl, ?_⟩) hHeld ?_
   ·intro wz hSw; obtain ⟨s0, s1⟩ := hSw; go_simp
   try simp only [Act.put, List.getElem_toArray, List.getElem_cons_succ, List.getElem_cons_zero, List.setIfInBounds_toArray, List.set_cons_zero, List.set_cons_succ]
   refine wpAnyH_take (i := 11) (v := .bool true) rfl (by kernel_rfl) (by kernel_rfl) (by kernel_rfl) (fun _ _ _ h => h) (Or.inl ⟨by kernel_rfl, ?_⟩) hHeld ?_
   ·intro wz hSw; obtain ⟨s0, s1⟩ := hSw; go_simp
   try simp only [Act.put, List.getElem_toArray, List.getElem_cons_succ, List.getElem_cons_zero, List.setIfInBounds_toArray, List.set_cons_zero, List.set_cons_succ]
   refine wpAnyH_take (i := 12) (v := .bool true) rfl (by kernel_rfl) (by kernel_rfl) (by kernel_rfl) (fun _ _ _ h => h) (Or.inl ⟨by rfl, ?_⟩) hHeld ?_
   ·intro wz hSw; obtain ⟨s0, s1⟩ := hSw; go_simp
   try simp only [Act.put, List.getElem_toArray, List.getElem_cons_succ, List.getElem_cons_zero, List.setIfInBounds_toArray, List.set_cons_zero, List.set_cons_succ]
   refine wpAnyH_take (i := 13) (v := .bool true) rfl (by kernel_rfl) (by kernel_rfl) (by kernel_rfl) (fun _ _ _ h => h) (Or.inl ⟨by rfl, ?_⟩) hHeld ?_
   ·intro wz hSw; obtain ⟨s0, s1⟩ := hSw; go_simp
   try simp only [Act.put, List.getElem_toArray, List.getElem_cons_succ, List.getElem_cons_zero, List.setIfInBounds_toArray, List.set_cons_zero, List.set_cons_succ]
   refine wpAnyH_done (by kernel_rfl) ?_ _
   go_wp2_with fail
   go_ret
   exact ⟨by rw [HE.out]; rfl, HB4.out⟩
  | false =>
   have HE : Hid (res = false) := by show _ = _; rw [HEE.out, hok]
   clear hpp
   go_enter Tryz.func60, Tryz.ntmps60
   go_upto_region 1 with (fail)
   refine wp_region_held_drew (S := fun w' => w'.cell? ⟨ab, ao, none⟩ = some (.int .i64 x') ∧ w'.cell? ⟨ab, ao + 1, none⟩ = some (.int .i64 y')) (by kernel_rfl) (HCX.out _ ((Below.refl _ w).drew)) (fun hHeld => ?_)
   refine wpAnyH_take (i := 0) (v := .slice (some ⟨ab, ao, none⟩) n c) rfl (by kernel_rfl) (by kernel_rfl) (by kernel_rfl) (fun _ _ _ h => h) (Or.inl ⟨by rfl, ?_⟩) hHeld ?_
   ·intro wz hSw; obtain ⟨s0, s1⟩ := hSw; go_simp
   try simp only [Act.put, List.getElem_toArray, List.getElem_cons_succ, List.getElem_cons_zero, List.setIfInBounds_toArray, List.set_cons_zero, List.set_cons_succ]
   refine wpAnyH_ready (rs := [1]) (by kernel_rfl) (by simp) ?_
   refine AllReadyH.cons rfl (fun K hK => ?_) AllReadyH.nil
   go_simp
   refine hK.out _ _ (HCX.out _ HB1.out) (fun hHeld => ?_)
   clear hK K
   try simp only [Act.put, List.getElem_toArray, List.getElem_cons_succ, List.getElem_cons_zero, List.setIfInBounds_toArray, List.set_cons_zero, List.set_cons_succ]
   refine wpAnyH_ready (rs := [2]) (by kernel_rfl) (by simp) ?_
   refine AllReadyH.cons rfl (fun K hK => ?_) AllReadyH.nil
   go_simp
   refine (Ard.fit_any (c := c) (d := 12) (b := [(1, 4096), (1, 4096), (0, 65535), (0, 65535), (0, 65535), (0, 65535)]) (bn := 6) (m := 12) _ (HAA.out.below HB1.out (Nat.le_refl _)) rfl rfl HSL.out (by decide)).mono ?_
   rintro e w4 ⟨rfl, q, rfl⟩
   rw [fits_fit, HFT.out]
   generalize hwq : World.drewN _ q = wq
   have HB4 : Hid (Below w.heap.size w wq) := by rw [← hwq]; exact Go.Proofs.YtoofgblmpjndjaaGreatDoor.K.below_drewN HB1.out q
   clear hwq
   refine hK.out _ _ (HCX.out _ HB4.out) (fun hHeld => ?_)
   clear hK K
   try simp only [Act.put, List.getElem_toArray, List.getElem_cons_succ, List.getElem_cons_zero, List.setIfInBounds_toArray, List.set_cons_zero, List.set_cons_succ]
   refine wpAnyH_take (i := 3) (v := .bool true) rfl (by kernel_rfl) (by kernel_rfl) (by kernel_rfl) (fun _ _ _ h => h) (Or.inl ⟨by rfl, ?_⟩) hHeld ?_
   ·intro wz hSw; obtain ⟨s0, s1⟩ := hSw; go_simp
   try simp only [Act.put, List.getElem_toArray, List.getElem_cons_succ, List.getElem_cons_zero, List.setIfInBounds_toArray, List.set_cons_zero, List.set_cons_succ]
   refine wpAnyH_take (i := 4) (v := .slice (some ⟨ab, ao, none⟩) n c) rfl (by kernel_rfl) (by kernel_rfl) (by kernel_rfl) (fun _ _ _ h => h) (Or.inl ⟨by kernel_rfl, ?_⟩) hHeld ?_
   ·intro wz hSw; obtain ⟨s0, s1⟩ := hSw; go_simp
   try simp only [Act.put, List.getElem_toArray, List.getElem_cons_succ, List.getElem_cons_zero, List.setIfInBounds_toArray, List.set_cons_zero, List.set_cons_succ]
   refine wpAnyH_take (i := 5) (v := .pointer (some ⟨ab, ao, none⟩)) rfl (by kernel_rfl) (by kernel_rfl) (by kernel_rfl) (fun _ _ _ h => h) (Or.inl ⟨by kernel_rfl, ?_⟩) hHeld ?_
   ·intro wz hSw; obtain ⟨s0, s1⟩ := hSw; go_simp
   try simp only [Act.put, List.getElem_toArray, List.getElem_cons_succ, List.getElem_cons_zero, List.setIfInBounds_toArray, List.set_cons_zero, List.set_cons_succ]
   refine wpAnyH_take (i := 6) (v := .int .i64 x') rfl (by kernel_rfl) (by kernel_rfl) (by kernel_rfl) (fun _ _ _ h => h) (Or.inl ⟨by kernel_rfl, ?_⟩) hHeld ?_
   ·intro wz hSw; obtain ⟨s0, s1⟩ := hSw; go_simp
   try simp only [Act.put, List.getElem_toArray, List.getElem_cons_succ, List.getElem_cons_zero, List.setIfInBounds_toArray, List.set_cons_zero, List.set_cons_succ]
   refine wpAnyH_take (i := 7) (v := .slice (some ⟨ab, ao, none⟩) n c) rfl (by kernel_rfl) (by kernel_rfl) (by kernel_rfl) (fun _ _ _ h => h) (Or.inl ⟨by kernel_rfl, ?_⟩) hHeld ?_
   ·intro wz hSw; obtain ⟨s0, s1⟩ := hSw; go_simp
   try simp only [Act.put, List.getElem_toArray, List.getElem_cons_succ, List.getElem_cons_zero, List.setIfInBounds_toArray, List.set_cons_zero, List.set_cons_succ]
   refine wpAnyH_take (i := 8) (v := .pointer (some ⟨ab, ao + 1, none⟩)) rfl (by kernel_rfl) (by kernel_rfl) (by kernel_rfl) (fun _ _ _ h => h) (Or.inl ⟨by kernel_rfl, ?_⟩) hHeld ?_
   ·intro wz hSw; obtain ⟨s0, s1⟩ := hSw; go_simp
   try simp only [Act.put, List.getElem_toArray, List.getElem_cons_succ, List.getElem_cons_zero, List.setIfInBounds_toArray, List.set_cons_zero, List.set_cons_succ]
   refine wpAnyH_take (i := 9) (v := .int .i64 y') rfl (by kernel_rfl) (by kernel_rfl) (by kernel_rfl) (fun _ _ _ h => h) (Or.inl ⟨by kernel_rfl, ?_⟩) hHeld ?_
   ·intro wz hSw; obtain ⟨s0, s1⟩ := hSw; go_simp
   try simp only [Act.put, List.getElem_toArray, List.getElem_cons_succ, List.getElem_cons_zero, List.setIfInBounds_toArray, List.set_cons_zero, List.set_cons_succ]
   refine wpAnyH_take (i := 10) (v := .int .i64 p) rfl (by kernel_rfl) (by kernel_rfl) (by kernel_rfl) (fun _ _ _ h => h) (Or.inl ⟨by kernel_rfl, ?_⟩) hHeld ?_
   ·intro wz hSw; obtain ⟨s0, s1⟩ := hSw; go_simp
   try simp only [Act.put, List.getElem_toArray, List.getElem_cons_succ, List.getElem_cons_zero, List.setIfInBounds_toArray, List.set_cons_zero, List.set_cons_succ]
   refine wpAnyH_take (i := 11) (v := .bool false) rfl (by kernel_rfl) (by kernel_rfl) (by kernel_rfl) (fun _ _ _ h => h) (Or.inl ⟨by kernel_rfl, ?_⟩) hHeld ?_
   ·intro wz hSw; obtain ⟨s0, s1⟩ := hSw; go_simp
   try simp only [Act.put, List.getElem_toArray, List.getElem_cons_succ, List.getElem_cons_zero, List.setIfInBounds_toArray, List.set_cons_zero, List.set_cons_succ]
   refine wpAnyH_take (i := 12) (v := .bool false) rfl (by kernel_rfl) (by kernel_rfl) (by kernel_rfl) (fun _ _ _ h => h) (Or.inl ⟨by rfl, ?_⟩) hHeld ?_
   ·intro wz hSw; obtain ⟨s0, s1⟩ := hSw; go_simp
   try simp only [Act.put, List.getElem_toArray, List.getElem_cons_succ, List.getElem_cons_zero, List.setIfInBounds_toArray, List.set_cons_zero, List.set_cons_succ]
   refine wpAnyH_take (i := 13) (v := .bool false) rfl (by kernel_rfl) (by kernel_rfl) (by kernel_rfl) (fun _ _ _ h => h) (Or.inl ⟨by rfl, ?_⟩) hHeld ?_
   ·intro wz hSw; obtain ⟨s0, s1⟩ := hSw; go_simp
   try simp only [Act.put, List.getElem_toArray, List.getElem_cons_succ, List.getElem_cons_zero, List.setIfInBounds_toArray, List.set_cons_zero, List.set_cons_succ]
   refine wpAnyH_done (by kernel_rfl) ?_ _
   go_wp2_with fail
   go_ret
   exact ⟨by rw [HE.out]; rfl, HB4.out⟩
end Go.Proofs.YtoofgblmpjndjaaGreatDoor.Scr
