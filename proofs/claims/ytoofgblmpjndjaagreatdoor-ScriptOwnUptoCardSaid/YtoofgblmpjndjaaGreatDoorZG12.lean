/-
  Texts of this claim, joined by program (MdA, ScV, ScW, ScX, ScY). Walks: the program's made: a text of some kinds of letters.
-/
import Derived.Test.YtoofgblmpjndjaaGreatDoorZG24
import Derived.Test.YtoofgblmpjndjaaGreatDoorZG9
import Derived.Test.YtoofgblmpjndjaaGreatDoorZG3
import Derived.Test.YtoofgblmpjndjaaGreatDoorZG1
import Derived.Laws.RangeString
import Derived.Lib.OthersKept
import Derived.Lib.SlTrimSet
import Derived.Test.YtoofgblmpjndjaaGreatDoorZG10
import Derived.Test.YtoofgblmpjndjaaGreatDoorZG4
set_option linter.unusedVariables false
set_option linter.unusedSimpArgs false
namespace Go.Proofs.YtoofgblmpjndjaaGreatDoor.Scr
open Go.RowKit K Go.Lib

def al : Tx := [97, 98, 99, 100, 101, 102, 103, 104, 105, 106, 107, 108, 109, 110, 111, 112, 113, 114, 115, 116, 117, 118, 119, 120, 121, 122, 48, 49, 50, 51, 52, 53, 54, 55, 56, 57]
theorem al_kind (c : UInt8) : al.contains c = (isLet c || isDig c) := by
 have hall : ∀ n : Fin 256, al.contains (UInt8.ofNat n.val) = (isLet (UInt8.ofNat n.val) || isDig (UInt8.ofNat n.val)) := by decide +kernel
 have := hall ⟨c.toNat, c.toNat_lt⟩
 rw [show UInt8.ofNat (⟨c.toNat, c.toNat_lt⟩ : Fin 256).val = c by simp] at this
 exact this
theorem set_kind (more : Tx) (c : UInt8) : (al ++ more).contains c = kind more c := by
 unfold kind
 rw [← al_kind, List.contains_eq_mem, List.contains_eq_mem, List.contains_eq_mem]
 simp [List.mem_append]
theorem dropWhile_nil {α : Type} {p : α → Bool} : ∀ {l : List α}, l.dropWhile p = [] ↔ l.all p = true
 | [] => by simp
 | a :: l => by
  rw [List.dropWhile_cons, List.all_cons]
  by_cases h : p a = true
  ·rw [if_pos h, dropWhile_nil, h, Bool.true_and]
  ·rw [if_neg h]
   simp [h]
theorem all_dropWhile {α : Type} {p : α → Bool} : ∀ {l : List α}, (l.dropWhile p).all p = true ↔ l.all p = true
 | [] => by simp
 | a :: l => by
  rw [List.dropWhile_cons]
  by_cases h : p a = true
  ·rw [if_pos h, all_dropWhile, List.all_cons, h, Bool.true_and]
  ·rw [if_neg h]
theorem trim_nil (l cs : Tx) : trimS l cs = [] ↔ l.all cs.contains = true := by
 unfold trimS trimLeftS trimRightS
 rw [dropWhile_nil, List.all_reverse, all_dropWhile, List.all_reverse]
set_option maxHeartbeats 2000000 in
theorem index_none {g : Nat} {lb : Array Value} (eg : ∀ args w, (callFunc g args).run Tryz.prog w = .ok (.enter g args) w) (s : ByteArray) (w : World) (hs : ∀ (k : Nat) (h : k < s.size), (s[k]'h).toNat < 128)
  (hp : ∀ (k : Nat) (h : k < s.size) (W : World), Below w.heap.size w W → Calls Tryz.prog g (#[.int .i32 ((s[k]'h).toNat : Int)] ++ lb) W fun e w' => e = .returned (.bool false) ∧ Below W.heap.size W w') :
  Calls Tryz.prog 150 #[.string s, .func (.func g) #[] lb, .bool true] w fun e w' => e = .returned (.int .i64 (-1)) ∧ Below w.heap.size w w' := by
 have HS := Lib.hid hs
 have HP := Lib.hid hp
 clear hs hp
 go_enter Tryz.func150, Tryz.ntmps150
 go_wp2
 go_loopg [] s.size (fun gf wx => ∃ pos : Nat, wx.heap[w.heap.size]? = some (.stringIter s pos) ∧ Below w.heap.size w wx ∧ s.size ≤ pos + gf)
 case atStart => exact ⟨0, World.iter_heap w s 0, (Below.refl _ w).alloc (Nat.le_refl _) _, by omega⟩
 case round =>
  obtain ⟨pos, hit, hbw, hfu⟩ := hrel
  by_cases hps : pos < s.size
  ·obtain ⟨g', rfl⟩ : ∃ g', gk = g' + 1 := ⟨gk - 1, by omega⟩
   have ha := HS.out pos hps
   have hnx : ∀ ty, (Instr.next (.pointer (some ⟨w.heap.size, 0, none⟩)) true ty).run Tryz.prog wr = _ := fun ty => Lib.run_next_ascii_at wr w.heap.size s pos ty hit hps ha
   have hit2 := Lib.iterAt_heap wr w.heap.size s pos (pos + 1) hit
   have hbw2 := Lib.below_iterAt hbw (k := w.heap.size) (Nat.le_refl _) s (pos + 1)
   obtain ⟨W, hWd⟩ : ∃ W, wr.iterAt w.heap.size s (pos + 1) = W := ⟨_, rfl⟩
   rw [hWd] at hnx hit2 hbw2
   have hltW : w.heap.size < W.heap.size := (Array.getElem?_eq_some_iff.1 hit2).1
   obtain ⟨c, hc⟩ : ∃ c, s[pos]'hps = c := ⟨_, rfl⟩
   have cS := HP.out pos hps W hbw2
   rw [hc] at cS hnx
   have HC := Lib.hid cS
   have HI := Lib.hid hit2
   have HB := Lib.hid hbw2
   have HL := Lib.hid hltW
   have HF := Lib.hid hfu
   clear cS hit hbw hit2 hbw2 hWd hltW ha hc hps hfu
   go_wp2_with (go_at_fn g; refine HC.out.mono ?_; rintro e W' ⟨rfl, hbc⟩)
   go_roundg g'
   case measure => omega
   case rel => exact ⟨pos + 1, (hbc.block _ HL.out).trans HI.out, (HB.out.trans (hbc.mono HB.out.size)), by have := HF.out; omega⟩
  ·have hnx : ∀ ty, (Instr.next (.pointer (some ⟨w.heap.size, 0, none⟩)) true ty).run Tryz.prog wr = _ := fun ty => Lib.run_next_end_at wr w.heap.size s pos ty hit hps
   go_wp2
   go_ret
   exact ⟨rfl, hbw⟩
theorem contains_none {g : Nat} {lb : Array Value} (eg : ∀ args w, (callFunc g args).run Tryz.prog w = .ok (.enter g args) w) (s : ByteArray) (w : World) (hs : ∀ (k : Nat) (h : k < s.size), (s[k]'h).toNat < 128)
  (hp : ∀ (k : Nat) (h : k < s.size) (W : World), Below w.heap.size w W → Calls Tryz.prog g (#[.int .i32 ((s[k]'h).toNat : Int)] ++ lb) W fun e w' => e = .returned (.bool false) ∧ Below W.heap.size W w') :
  Calls Tryz.prog 98 #[.string s, .func (.func g) #[] lb] w fun e w' => e = .returned (.bool false) ∧ Below w.heap.size w w' := by
 have HC := Lib.hid (index_none eg s w hs hp)
 have HC2 : Hid (Calls Tryz.prog 126 #[.string s, .func (.func g) #[] lb] w fun e w' => e = .returned (.int .i64 (-1)) ∧ Below w.heap.size w w') := by
  show Calls _ _ _ _ _
  clear hs hp
  go_enter Tryz.func126, Tryz.ntmps126
  go_wp2_with (first | (go_at_call 150; refine HC.out.mono ?_; rintro e w' ⟨rfl, hb⟩; have HB := Lib.hid hb; clear hb) | fail)
  go_ret
  exact ⟨rfl, HB.out⟩
 clear hs hp HC
 go_enter Tryz.func98, Tryz.ntmps98
 go_wp2_with (first | (go_at_call 126; refine HC2.out.mono ?_; rintro e w' ⟨rfl, hb⟩; have HB := Lib.hid hb; clear hb) | fail)
 go_ret
 exact ⟨rfl, HB.out⟩
theorem set_in {l : Tx} {c : UInt8} (h : l.contains c = true) : decide (0 ≤ Lib.indexByte l c) = true := by
 refine decide_eq_true ?_
 have hge := indexByte_ge l c
 by_cases h1 : indexByte l c = -1
 ·exfalso
  have hno := indexByte_none h1
  rw [List.contains_iff_mem] at h
  obtain ⟨k, hk⟩ := List.mem_iff_getElem?.1 h
  exact hno k hk
 ·omega
theorem set_ascii {more : Tx} (hm : ∀ c ∈ more, c.toNat < 128) : ∀ c ∈ al ++ more, c.toNat < 128 := fun c hc => by
 rcases List.mem_append.1 hc with h | h
 ·have h2 : ∀ c ∈ al, c.toNat < 128 := by decide
  exact h2 c h
 ·exact hm c h
theorem ba_at {t : Tx} {k : Nat} (h : k < (ba t).size) : ∃ c, (ba t)[k]'h = c ∧ c ∈ t := by
 refine ⟨_, rfl, ?_⟩
 have e : (ba t)[k]'h = t[k]'(by simpa [ba_size] using h) := rfl
 rw [e]
 exact List.getElem_mem _
theorem made1_in {more : Tx} {B : Nat} {c : UInt8} (w : World) (hc : w.cell? ⟨B, 0, none⟩ = some (.string (ba more))) (hz : more.length ≤ 1000) (hin : (al ++ more).contains c = true) (ha : c.toNat < 128) :
  Calls Tryz.prog 99 #[.int .i32 (c.toNat : Int), .pointer (some ⟨B, 0, none⟩)] w fun e w' => e = .returned (.bool false) ∧ Below w.heap.size w w' := by
 have HCR := Scs.strings_ContainsRune_ascii (ba (al ++ more)) (c.toNat : Int) w (by omega) (by omega)
 have e1 : ((c.toNat : Int)).toNat.toUInt8 = c := by simp
 have e2 : decide (0 ≤ Lib.indexByte (ba (al ++ more)).data.toList ((c.toNat : Int)).toNat.toUInt8) = true := by rw [e1, ba_list]; exact set_in hin
 rw [e2] at HCR
 have e3 : (⟨#[97, 98, 99, 100, 101, 102, 103, 104, 105, 106, 107, 108, 109, 110, 111, 112, 113, 114, 115, 116, 117, 118, 119, 120, 121, 122, 48, 49, 50, 51, 52, 53, 54, 55, 56, 57]⟩ : ByteArray) ++ ba more = ba (al ++ more) := by
  apply ByteArray.ext
  simp [ba, ByteArray.data_append, al]
 obtain ⟨z, hz1⟩ : ∃ z, ba more = z := ⟨_, rfl⟩
 obtain ⟨zz, hz2⟩ : ∃ z, ba (al ++ more) = z := ⟨_, rfl⟩
 have hsz : 36 + z.size ≤ 9223372036854775807 := by rw [← hz1, ba_size]; omega
 rw [hz1] at hc e3
 rw [hz2] at HCR e3
 have H := Lib.hid HCR
 clear HCR hz1 hz2 e1 e2 hin ha hz
 go_enter Tryz.func99, Tryz.ntmps99
 go_wp2_with (first | (go_at_call 100; refine H.out.mono ?_; rintro e w' ⟨rfl, rfl⟩) | fail)
 go_ret
 exact ⟨rfl, Below.refl _ _⟩
theorem ba_empty (t : Tx) : (ba t).toList.isEmpty = decide (t = []) := by
 rw [ByteArray.toList_eq]
 cases t with
 | nil => rfl
 | cons a l => rfl
set_option maxRecDepth 20000 in
set_option maxHeartbeats 4000000 in
theorem made_any {t more : Tx} (w : World) (hm : ∀ c ∈ more, c.toNat < 128) (hml : more.length ≤ 100) : Calls Tryz.prog 71 #[.string (ba t), .string (ba more)] w fun e w' => e = .returned (.bool (madeB more t)) ∧ Below w.heap.size w w' := by
 have hmf : ∀ (fn : Fn) (first cap : Array Value) (w : World), (Instr.makeFunc fn first cap).run Tryz.prog w = .ok (.func fn first cap) w := fun _ _ _ _ => rfl
 obtain ⟨r, hr⟩ : ∃ r, madeB more t = r := ⟨_, rfl⟩
 rw [hr]
 have e3 : (⟨#[97, 98, 99, 100, 101, 102, 103, 104, 105, 106, 107, 108, 109, 110, 111, 112, 113, 114, 115, 116, 117, 118, 119, 120, 121, 122, 48, 49, 50, 51, 52, 53, 54, 55, 56, 57]⟩ : ByteArray) ++ ba more = ba (al ++ more) := by
  apply ByteArray.ext
  simp [ba, ByteArray.data_append, al]
 have hasc := set_ascii hm
 have hms : (al ++ more).length = 36 + more.length := by rw [List.length_append]; rfl
 obtain ⟨st, hst⟩ : ∃ s, al ++ more = s := ⟨_, rfl⟩
 have hall : (t.all (kind more)) = t.all st.contains := by rw [← hst]; congr 1; funext c; exact (set_kind more c).symm
 have HTRIM := fun W (hl : t.length ≤ 16) => Scs.strings_Trim_laid (ba t) (ba st) W (by rw [ba_size]; omega) (by rw [ba_size, ← hst]; omega) (fun j b hb => hasc b (by rw [hst]; exact List.mem_of_getElem? hb))
 have HM1 := fun W (B : Nat) (c : UInt8) (hc : W.cell? ⟨B, 0, none⟩ = some (.string (ba more))) (hi : st.contains c = true) => made1_in (more := more) (B := B) (c := c) W hc (by omega) (by rw [hst]; exact hi) (hasc c (by rw [hst]; exact List.contains_iff_mem.1 hi))
 rw [hst] at e3
 obtain ⟨z, hz⟩ : ∃ z, ba t = z := ⟨_, rfl⟩
 obtain ⟨zm, hzm⟩ : ∃ z, ba more = z := ⟨_, rfl⟩
 obtain ⟨zz, hzz⟩ : ∃ z, ba st = z := ⟨_, rfl⟩
 have hsz : 36 + zm.size ≤ 9223372036854775807 := by rw [← hzm, ba_size]; omega
 have hzs : z.size = t.length := by rw [← hz, ba_size]
 have hW : ∃ W0, w.alloc (.cells #[.string zm] 9) = W0 ∧ W0.cell? ⟨w.heap.size, 0, none⟩ = some (.string zm) ∧ Below w.heap.size w W0 ∧ w.heap.size < W0.heap.size := by
  refine ⟨_, rfl, ?_, (Below.refl _ w).alloc (Nat.le_refl _) _, by simp⟩
  unfold World.cell?
  rw [heap_alloc_new]
  rfl
 obtain ⟨W0, hW0, hc0, hb0, hl0⟩ := hW
 have HB0 := Lib.hid hb0
 have HL0 := Lib.hid hl0
 clear hb0 hl0
 rw [hzm] at e3
 rw [hzm] at HM1
 rw [hz, hzz] at HTRIM
 rw [hzz] at e3
 rw [hz, hzm]
 by_cases h1 : 1 ≤ t.length
 ·have t1 : decide ((1 : Int) ≤ (z.size : Int)) = true := decide_eq_true (by omega)
  have t1' : decide (1 ≤ z.size) = true := decide_eq_true (by omega)
  have q1 : (1 : Int) ≤ (z.size : Int) := by omega
  by_cases h2 : t.length ≤ 16
  ·have t2 : decide ((z.size : Int) ≤ 16) = true := decide_eq_true (by omega)
   have t2' : decide (z.size ≤ 16) = true := decide_eq_true (by omega)
   have HT := HTRIM W0 h2
   obtain ⟨q, hq⟩ : ∃ q : ByteArray, (⟨(trimS z.data.toList zz.data.toList).toArray⟩ : ByteArray) = q := ⟨_, rfl⟩
   rw [hq] at HT
   have hqe : q.toList.isEmpty = decide (t.all st.contains = true) := by
    rw [← hq, ← hz, ← hzz, ba_list, ba_list]
    show (ba _).toList.isEmpty = _
    rw [ba_empty]
    exact decide_eq_decide.2 (trim_nil t st)
   have HTT := Lib.hid HT
   by_cases h3 : t.all st.contains = true
   ·have hqe2 : q.toList.isEmpty = true := by rw [hqe]; exact decide_eq_true h3
    have HE : Hid (r = true) := by show _ = _; rw [← hr]; unfold madeB; rw [hall, h3, decide_eq_true ⟨h1, h2⟩]; rfl
    have HCN : Hid (∀ V, Below w.heap.size w V → V.cell? ⟨w.heap.size, 0, none⟩ = some (.string zm) → w.heap.size < V.heap.size → Calls Tryz.prog 98 #[.string z, .func (.func 99) #[] #[.pointer (some ⟨w.heap.size, 0, none⟩)]] V fun e w' => e = .returned (.bool false) ∧ Below V.heap.size V w') := by
     show ∀ _, _ → _ → _ → _
     intro V hV hcV hlV
     have hin : ∀ (k : Nat) (h : k < z.size), st.contains (z[k]'h) = true := fun k h => by
      subst hz
      obtain ⟨c, hc, hmem⟩ := ba_at h
      rw [hc]
      exact List.all_eq_true.1 h3 c hmem
     refine contains_none (enters_of Tryz.func99 (by kernel_rfl) rfl) z V (fun k h => hasc _ (by rw [hst]; exact List.contains_iff_mem.1 (hin k h))) (fun k h W2 hW2 => ?_)
     exact HM1 W2 w.heap.size _ ((hW2.cell (p := ⟨w.heap.size, 0, none⟩) hlV).trans hcV) (hin k h)
    clear hr hasc hms hst hall HTRIM HM1 hz hzm hzz hzs h1 h2 h3 HT hq hqe hm hml
    go_enter Tryz.func71, Tryz.ntmps71
    go_wp2_with (first | (go_at_call 97; refine HTT.out.mono ?_; rintro e w1 ⟨rfl, hb1⟩; have HB1 := Lib.hid hb1; have HC1 : Hid (w1.cell? ⟨w.heap.size, 0, none⟩ = some (.string zm)) := (hb1.cell (p := ⟨w.heap.size, 0, none⟩) HL0.out).trans hc0; have HB2 : Hid (Below w.heap.size w w1) := HB0.out.trans (hb1.mono HB0.out.size); have HL1 : Hid (w.heap.size < w1.heap.size) := Nat.lt_of_lt_of_le HL0.out hb1.size; clear hb1) | (go_at_call 98; refine (HCN.out _ HB2.out HC1.out HL1.out).mono ?_; rintro e w' ⟨rfl, hb⟩; have HB3 := Lib.hid hb; clear hb) | fail)
    go_ret
    exact ⟨by rw [HE.out]; rfl, HB2.out.trans (HB3.out.mono HB2.out.size)⟩
   ·have hqe2 : q.toList.isEmpty = false := by rw [hqe]; exact decide_eq_false h3
    have HE : Hid (r = false) := by show _ = _; rw [← hr]; unfold madeB; rw [hall, Bool.eq_false_iff.2 h3, Bool.and_false]
    clear hr hasc hms hst hall HTRIM HM1 hz hzm hzz hzs h1 h2 h3 HT hq hqe hm hml
    go_enter Tryz.func71, Tryz.ntmps71
    go_wp2_with (first | (go_at_call 97; refine HTT.out.mono ?_; rintro e w1 ⟨rfl, hb1⟩; have HB2 : Hid (Below w.heap.size w w1) := HB0.out.trans (hb1.mono HB0.out.size); clear hb1) | fail)
    go_ret
    exact ⟨by rw [HE.out]; rfl, HB2.out⟩
  ·have t2 : decide ((z.size : Int) ≤ 16) = false := decide_eq_false (by omega)
   have t2' : decide (z.size ≤ 16) = false := decide_eq_false (by omega)
   have HE : Hid (r = false) := by show _ = _; rw [← hr]; unfold madeB; rw [decide_eq_false (fun h => h2 h.2)]; rfl
   clear hr hasc hms hst hall HTRIM HM1 hz hzm hzz hzs h1 h2 hm hml
   go_enter Tryz.func71, Tryz.ntmps71
   go_wp2_with fail
   go_ret
   exact ⟨by rw [HE.out]; rfl, HB0.out⟩
 ·have t1 : decide ((1 : Int) ≤ (z.size : Int)) = false := decide_eq_false (by omega)
  have t1' : decide (1 ≤ z.size) = false := decide_eq_false (by omega)
  have q1 : ¬ (1 : Int) ≤ (z.size : Int) := by omega
  have HE : Hid (r = false) := by show _ = _; rw [← hr]; unfold madeB; rw [decide_eq_false (fun h => h1 h.1)]; rfl
  clear hr hasc hms hst hall HTRIM HM1 hz hzm hzz hzs h1 hm hml
  go_enter Tryz.func71, Tryz.ntmps71
  go_wp2_with fail
  go_ret
  exact ⟨by rw [HE.out]; rfl, HB0.out⟩
end Go.Proofs.YtoofgblmpjndjaaGreatDoor.Scr
set_option linter.unusedVariables false
set_option linter.unusedSimpArgs false
namespace Go.Proofs.YtoofgblmpjndjaaGreatDoor.Scr
open Go.RowKit K Go.Lib

theorem formats_new (w : World) : Calls Tryz.prog 49 #[] w fun e w' => e = .returned (.slice (some ⟨w.heap.size, 0, none⟩) 6 6) ∧ w' = w.alloc (.cells #[.string ⟨#[112, 110, 109]⟩, .string ⟨#[98, 109, 112]⟩, .string ⟨#[112, 110, 103]⟩, .string ⟨#[103, 105, 102]⟩, .string ⟨#[116, 105, 102, 102]⟩, .string ⟨#[106, 112, 101, 103]⟩] 9) := by
 go_enter Tryz.func49, Tryz.ntmps49
 go_wp2
 go_ret
 exact ⟨rfl, rfl⟩
theorem formats_at (w : World) : Calls Tryz.prog 49 #[] w fun e w' => ∃ gf, e = .returned (.slice (some ⟨gf, 0, none⟩) 6 6) ∧ (∀ i, i < 6 → w'.cell? ⟨gf, i, none⟩ = some (.string (ba (fmtsM.getD i [])))) ∧ SS w' (some ⟨gf, 0, none⟩) 6 fmtsM ∧ Below w.heap.size w w' :=
 (formats_new w).mono fun e w' ⟨he, hw⟩ => ⟨_, he, fun i hi => by
  subst hw
  refine alloc_cell ?_
  match i, hi with
  | 0, _ => rfl
  | 1, _ => rfl
  | 2, _ => rfl
  | 3, _ => rfl
  | 4, _ => rfl
  | 5, _ => rfl, by subst hw; exact SS.lit w fmtsM 9 (by decide), by subst hw; exact (Below.refl _ w).alloc (Nat.le_refl _) _⟩
theorem own_lit (w : World) (xs : List Value) (T : TypeId) (h1 : xs.length ≤ maxLen) : (w.alloc (.cells xs.toArray T)).ownsRow w.heap.size T 1 (.slice (some ⟨w.heap.size, 0, none⟩) xs.length xs.length) xs.length xs := by
 refine ⟨by simp, .inr ⟨w.heap.size, xs.length, xs.toArray, rfl, Nat.le_refl _, ?_, ?_⟩⟩
 ·exact heap_alloc_new w _
 ·simpa using h1
end Go.Proofs.YtoofgblmpjndjaaGreatDoor.Scr
set_option linter.unusedVariables false
set_option linter.unusedSimpArgs false
namespace Go.Proofs.YtoofgblmpjndjaaGreatDoor.Scr
open Go.RowKit K Go.Lib

def NumberP (w : World) (r : Option Int) (e : Ending) (w' : World) : Prop := Below w.heap.size w w' ∧ e = match r with
 | none => .panicked bk
 | some v => .returned (.int .i64 v)
def NumbersP (w : World) (res : Option (List Int)) (e : Ending) (w' : World) : Prop :=
 Below w.heap.size w w' ∧ match res with
 | none => e = .panicked bk
 | some a => ∃ A c, e = .returned (.slice A a.length c) ∧ w'.ownsRow w.heap.size 3 1 (.slice A a.length c) a.length (a.map (.int .i64))
set_option maxHeartbeats 2000000 in
theorem numbers_any {A : Option Addr} {n c : Nat} {l : List Tx} (w : World) (H : SS w A n l) (HNUM : ∀ (t : Tx) (V : World), Below w.heap.size w V → Calls Tryz.prog 72 #[.string (ba t)] V (NumberP V (numM t))) : Calls Tryz.prog 50 #[.slice A n c] w (NumbersP w (numsM l)) := by
 obtain ⟨res, hres⟩ : ∃ b, numsM l = b := ⟨_, rfl⟩
 rw [hres]
 have HRES := Lib.hid hres
 have HS := Lib.hid H
 have HLN := Lib.hid H.len
 have HSZ : Hid (n ≤ 8796093022000) := H.sz
 have HNU := Lib.hid HNUM
 clear hres H HNUM
 go_enter Tryz.func50, Tryz.ntmps50
 go_wp2
 go_loopw [3, 5, 8] (fun s3 s5 s8 wr => ∃ (k : Nat) (A1 : Option Addr) (c1 : Nat) (a : List Int), k ≤ n ∧ s3 = .slice A1 k c1 ∧ s8 = .int .i64 (k : Int) ∧ a.length = k ∧ Hid (numsM (l.take k) = some a) ∧ wr.ownsRow w.heap.size 3 1 (.slice A1 k c1) k (a.map (.int .i64)) ∧ Below w.heap.size w wr) (fun _ _ s8 _ => n - (intOf s8).toNat)
 case atStart => exact ⟨0, none, 0, [], by omega, rfl, rfl, rfl, rfl, World.ownsRow_nil _ _ _ _, Below.refl _ _⟩
 case round =>
  obtain ⟨k, A1, c1, a, hk, rfl, rfl, hal, HN, ho, hb⟩ := hrel
  have HO := Lib.hid ho
  have HB := Lib.hid hb
  have HAL := Lib.hid hal
  clear ho hb hal
  by_cases hlt : k < n
  ·have HLT := Lib.hid hlt
   obtain ⟨b, off, t, rfl, hc, ht, -⟩ := (HS.out.below HB.out).cell hlt
   have d0 : decide ((k : Int) < (n : Int)) = true := decide_eq_true (by omega)
   have e0 : decide (k < n) = true := decide_eq_true hlt
   have l0 : (k : Int) < n := by omega
   have z0 : (0 : Int) ≤ k := by omega
   have HT := Lib.hid ht
   have hcall := HNU.out t wr HB.out
   have HU : Hid (wrap64 ((k : Int) + 1) = ((k + 1 : Nat) : Int)) := by show _ = _; have := HSZ.out; rw [IntWalk.wrap64_in _ (by omega)]; rfl
   cases hv : numM t with
   | none =>
    have HE : Hid (res = none) := by show _ = _; rw [← HRES.out]; exact numsM_bad (List.mem_of_getElem? HT.out) hv
    rw [hv] at hcall
    have HC := Lib.hid hcall
    clear hcall hv ht hk hlt
    go_wp2_with (first | (go_at_call 72; refine HC.out.mono ?_; rintro e w' ⟨hb1, rfl⟩) | fail)
    refine bodyPost_panic ⟨HB.out.trans (hb1.mono HB.out.size), ?_⟩
    rw [HE.out]
   | some v =>
    have HN2 : Hid (numsM (l.take (k + 1)) = some (a ++ [v])) := by show _ = _; rw [List.take_add_one, HT.out, Option.toList_some]; exact numsM_snoc HN.out hv
    rw [hv] at hcall
    have HC := Lib.hid hcall
    clear hcall hv ht hk hlt
    go_wp2_with (first | (go_at_call 72; refine HC.out.mono ?_; rintro e w2 ⟨hb1, rfl⟩; have HB1 : Hid (Below w.heap.size w w2) := HB.out.trans (hb1.mono HB.out.size); have HO1 := Lib.hid (own_below HO.out hb1); clear hb1) | (at_builtin; refine Jp.wpList_push rfl (.tmp 12) (.tmp 15) _ rfl w.heap.size 3 1 8 (.int .i64 0) Tryz.underlying35 infoInt rfl (by omega) (.slice A1 k c1) k (a.map (.int .i64)) rfl (HO1.out.alloc _) w2.heap.size 1 1 [.int .i64 v] 3 rfl rfl (heap_alloc_new w2 _) (by simp [Value.oneCell']) (by omega) (by have := HSZ.out; have := HLT.out; unfold maxLen; omega) (by have := HSZ.out; have := HLT.out; omega) (by have := HB1.out.size; simp; omega) _ rfl ?_) | fail)
    intro g cap w5 ho5 hg5 _ hlt5
    have HO5 : Hid (w5.ownsRow w.heap.size 3 1 (.slice (some ⟨g, 0, none⟩) (k + 1) cap) (k + 1) ((a ++ [v]).map (.int .i64))) := by show World.ownsRow _ _ _ _ _ _ _; rw [List.map_append]; exact ho5
    have HB5 : Hid (Below w.heap.size w w5) := (HB1.out.alloc HB1.out.size _).grown hg5 (by have := HB1.out.size; simp; omega) (fun q hq => (HO1.out.lt q hq).1)
    clear ho5 hg5 hlt5
    go_wp2_with fail
    go_roundw
    case rel => exact ⟨k + 1, _, cap, a ++ [v], HLT.out, rfl, by first | rfl | rw [HU.out], by rw [List.length_append, HAL.out]; rfl, HN2, HO5.out, HB5.out⟩
    case measure => first | exact meas_by (d := 1) HLT.out (by omega) | (rw [HU.out]; exact meas_by (d := 1) HLT.out (by omega))
  ·obtain rfl : k = n := by omega
   have d0 : decide ((k : Int) < (k : Int)) = false := decide_eq_false (by omega)
   have hn := HN.out
   rw [List.take_of_length_le (by rw [HLN.out]; exact Nat.le_refl _)] at hn
   have HE : Hid (res = some a) := by show _ = _; rw [← HRES.out]; exact hn
   clear hn hlt hk
   go_wp2_with fail
   go_ret
   refine ⟨HB.out, ?_⟩
   rw [HE.out]
   refine ⟨A1, c1, ?_, ?_⟩
   ·rw [HAL.out]; rfl
   ·rw [HAL.out]; exact HO.out
end Go.Proofs.YtoofgblmpjndjaaGreatDoor.Scr
set_option linter.unusedVariables false
set_option linter.unusedSimpArgs false
namespace Go.Proofs.YtoofgblmpjndjaaGreatDoor.Scr
open Go.RowKit K Go.Lib

def TextP (w : World) (t : Tx) (r : Bool) (e : Ending) (w' : World) : Prop := Below w.heap.size w w' ∧ e = (if r then .returned (.string (ba t)) else .panicked bk)
theorem file_any {t : Tx} (w : World) (HM : Calls Tryz.prog 71 #[.string (ba t), .string ⟨#[95, 46, 45]⟩] w fun e w' => e = .returned (.bool (fileB t)) ∧ Below w.heap.size w w') : Calls Tryz.prog 47 #[.string (ba t)] w (TextP w t (fileB t)) := by
 obtain ⟨r, hr⟩ : ∃ r, fileB t = r := ⟨_, rfl⟩
 rw [hr] at HM ⊢
 have HC := Lib.hid HM
 clear HM hr
 cases r
 ·go_enter Tryz.func47, Tryz.ntmps47
  go_wp2_with (first | (go_at_call 71; refine HC.out.mono ?_; rintro e w2 ⟨rfl, hb⟩; have HB := Lib.hid hb; clear hb; have HX := Lib.hid (must_no w2)) | (go_at_call 45; refine HX.out.mono ?_; rintro e w' ⟨rfl, rfl⟩) | fail)
  exact bodyPost_panic ⟨HB.out, rfl⟩
 ·go_enter Tryz.func47, Tryz.ntmps47
  go_wp2_with (first | (go_at_call 71; refine HC.out.mono ?_; rintro e w2 ⟨rfl, hb⟩; have HB := Lib.hid hb; clear hb; have HX := Lib.hid (must_yes w2)) | (go_at_call 45; refine HX.out.mono ?_; rintro e w' ⟨rfl, rfl⟩) | fail)
  go_ret
  exact ⟨HB.out, rfl⟩
end Go.Proofs.YtoofgblmpjndjaaGreatDoor.Scr
set_option linter.unusedVariables false
set_option linter.unusedSimpArgs false
namespace Go.Proofs.YtoofgblmpjndjaaGreatDoor.Scr
open Go.RowKit K Go.Lib

theorem kind_let {c : UInt8} (h : kind [95] c = true) : isLet c = decide (97 ≤ c.toNat) := by
 have hall : ∀ n : Fin 256, kind [95] (UInt8.ofNat n.val) = true → isLet (UInt8.ofNat n.val) = decide (97 ≤ (UInt8.ofNat n.val).toNat) := by decide +kernel
 have := hall ⟨c.toNat, c.toNat_lt⟩
 rw [show UInt8.ofNat (⟨c.toNat, c.toNat_lt⟩ : Fin 256).val = c by simp] at this
 exact this h
theorem name_any {t : Tx} (w : World) (HM : Calls Tryz.prog 71 #[.string (ba t), .string ⟨#[95]⟩] w fun e w' => e = .returned (.bool (madeB [95] t)) ∧ Below w.heap.size w w') : Calls Tryz.prog 46 #[.string (ba t)] w (TextP w t (nameB t)) := by
 obtain ⟨r, hr⟩ : ∃ r, madeB [95] t = r := ⟨_, rfl⟩
 rw [hr] at HM
 have HC := Lib.hid HM
 clear HM
 cases r
 ·have HE : Hid (nameB t = false) := by show _ = _; unfold nameB; rw [hr]; rfl
  rw [HE.out]
  clear hr
  go_enter Tryz.func46, Tryz.ntmps46
  go_wp2_with (first | (go_at_call 71; refine HC.out.mono ?_; rintro e w2 ⟨rfl, hb⟩; have HB := Lib.hid hb; clear hb; have HX := Lib.hid (must_no w2)) | (go_at_call 45; refine HX.out.mono ?_; rintro e w' ⟨rfl, rfl⟩) | fail)
  exact bodyPost_panic ⟨HB.out, rfl⟩
 ·have hr' := hr
  unfold madeB at hr'
  rw [Bool.and_eq_true, decide_eq_true_eq] at hr'
  obtain ⟨⟨hl1, hl2⟩, hall⟩ := hr'
  have hsz : 0 < (ba t).size := by rw [ba_size]; omega
  obtain ⟨c0, hc0, hcl0⟩ := byte_at (s := ba t) (k := 0) hsz
  rw [ba_list] at hcl0
  have hg0 : t.getD 0 0 = c0 := by rw [List.getD_eq_getElem?_getD, hcl0]; rfl
  have hk : kind [95] c0 = true := List.all_eq_true.1 hall c0 (List.mem_of_getElem? hcl0)
  have HE : Hid (nameB t = decide (97 ≤ c0.toNat)) := by show _ = _; unfold nameB; rw [hr, hg0, kind_let hk]; rfl
  rw [HE.out]
  obtain ⟨z, hz⟩ : ∃ z, ba t = z := ⟨_, rfl⟩
  have HZ := Lib.hid hz
  have i0 : (0 : Int) < z.size := by rw [← hz]; omega
  have i1 : 0 < z.size := by rw [← hz]; exact hsz
  have hc : z[0]'i1 = c0 := by subst hz; exact hc0
  unfold TextP
  rw [hz] at HC ⊢
  clear hr hl1 hl2 hall hsz hc0 hcl0 hg0 hk hz
  by_cases h97 : 97 ≤ c0.toNat
  ·have t1 : decide (97 ≤ c0.toNat) = true := decide_eq_true h97
   have t2 : decide ((97 : Int) ≤ (c0.toNat : Int)) = true := decide_eq_true (by omega)
   rw [t1]
   go_enter Tryz.func46, Tryz.ntmps46
   go_wp2_with (first | (go_at_call 71; refine HC.out.mono ?_; rintro e w2 ⟨rfl, hb⟩; have HB := Lib.hid hb; clear hb; have HX := Lib.hid (must_yes w2)) | (go_at_call 45; refine HX.out.mono ?_; rintro e w' ⟨rfl, rfl⟩) | fail)
   go_ret
   exact ⟨HB.out, rfl⟩
  ·have t1 : decide (97 ≤ c0.toNat) = false := decide_eq_false h97
   have t2 : decide ((97 : Int) ≤ (c0.toNat : Int)) = false := decide_eq_false (by omega)
   rw [t1]
   go_enter Tryz.func46, Tryz.ntmps46
   go_wp2_with (first | (go_at_call 71; refine HC.out.mono ?_; rintro e w2 ⟨rfl, hb⟩; have HB := Lib.hid hb; clear hb; have HX := Lib.hid (must_no w2)) | (go_at_call 45; refine HX.out.mono ?_; rintro e w' ⟨rfl, rfl⟩) | fail)
   exact bodyPost_panic ⟨HB.out, rfl⟩
end Go.Proofs.YtoofgblmpjndjaaGreatDoor.Scr
