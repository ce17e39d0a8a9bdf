/-
  Texts of this claim, joined by program (PnmK, PnmL, PnmN, PnmO). Walks: the program's reader of a sample in digits.
-/
import Derived.Test.YtbmlopklhgladaaDoorZG8
import Derived.Deep.DeepCutAuto
import Derived.Deep.CutBlock
set_option linter.unusedVariables false
set_option linter.unusedSimpArgs false
namespace Go.Proofs.YtbmlopklhgladaaDoor.Pnm
open Go.RowKit K Ian

def PNextP (w : World) (rb : Nat) (A : Option Addr) (n c : Nat) (kind W H top : Int) (o : Option (Int × Nat)) (e : Ending) (w' : World) : Prop :=
  w.grownBy w' (some rb) ∧ ∃ a' : Nat, w'.heap[rb]? = some (.cells (rdA A n c a' kind W H top) 54 (0, 0)) ∧ match o with
  | none => ∃ v, e = .returned (.tuple #[v, .bool false])
  | some (v, g) => a' = g ∧ e = .returned (.tuple #[.int .i64 v, .bool true])
set_option maxRecDepth 20000 in
set_option maxHeartbeats 8000000 in
theorem pnext_any {rb n c a : Nat} {A : Option Addr} {l : List Int} {kind W H top : Int} {first : Bool} (w : World) (hrow : w.heap[rb]? = some (.cells (rdA A n c a kind W H top) 54 (0, 0))) (HA : SI w .u8 A n l) (hwf : ∀ x ∈ l, 0 ≤ x ∧ x < 256) (hoff : Off w rb A) (hnc : n ≤ c) (HV : Vars w) (hrb : vb ≤ rb) (ha : a ≤ n) (hk1 : 1 ≤ kind) :
    Calls Tryd.prog 42 #[.pointer (some ⟨rb, 0, none⟩), .bool first] w (PNextP w rb A n c kind W H top (smpM l kind top a first)) := by
  have HG := Lib.hid (pgap_any w hrow HA hwf hoff hnc HV hrb ha)
  have HAA := Lib.hid HA
  have HWF := Lib.hid hwf
  have HLEN := Lib.hid HA.len
  have HOF := Lib.hid hoff
  have hbig := HA.bigb
  clear hrow HA hwf hoff HV
  go_enter Tryd.func42, Tryd.ntmps42
  go_wp2_with fail
  refine HG.out.mono ?_
  rintro e w1 ⟨hg1, a1, hr1, hres⟩
  have HG1 := Lib.hid hg1
  have HR1 := Lib.hid hr1
  have HZ1 := Lib.hid (SI.kept HAA.out hg1 HOF.out)
  have HOF1 := Lib.hid (Off.kept HOF.out hg1)
  have HGQ : Hid (∀ q, w.grownBy (w1.drewN q) (some rb)) := fun q => grown_drewN hg1 q
  have HRQ : Hid (∀ q, (w1.drewN q).heap[rb]? = some (.cells (rdA A n c a1 kind W H top) 54 (0, 0))) := fun q => hr1
  clear hg1 hr1 HG
  obtain ⟨c0, c1, c2, c3, c4, c5⟩ := cells6 HR1.out
  cases hg : gapM l a with
  | none =>
    have HN : Hid (smpM l kind top a first = none) := by show _ = _; unfold smpM; rw [hg]
    rw [hg] at hres
    obtain rfl := hres
    clear hg
    go_wp2_with fail
    go_quiet (fail)
    go_wp2_with fail
    go_ret2
    exact ⟨HGQ.out _, a1, HRQ.out _, by rw [HN.out]; exact ⟨_, rfl⟩⟩
  | some j =>
    have hj := gapM_ge _ _ _ rfl hg
    rw [hg] at hres
    obtain ⟨rfl, rfl⟩ := hres
    have HGA := Lib.hid hg
    clear hg
    have f1 : decide ((a1 : Int) - (a : Int) < 0) = false := decide_eq_false (by omega)
    by_cases hend : a1 = n
    · have f2 : ((a1 : Int) == (n : Int)) = true := by simp [hend]
      have hle : l.length ≤ a1 := by have := HLEN.out; omega
      have HLE := Lib.hid hle
      clear hend hle
      have HN : Hid (smpM l kind top a first = none) := by show _ = _; unfold smpM; rw [HGA.out]; simp only []; rw [if_pos (.inr HLE.out)]
      go_wp2_with fail
      go_quiet (fail)
      go_wp2_with fail
      go_ret2
      exact ⟨HGQ.out _, a1, HRQ.out _, by rw [HN.out]; exact ⟨_, rfl⟩⟩
    · have f2 : ((a1 : Int) == (n : Int)) = false := by simp; omega
      have hlt : a1 < n := by have := HLEN.out; omega
      have HLT : Hid (¬ l.length ≤ a1) := by show ¬ _; have := HLEN.out; omega
      have i0 : (0 : Int) ≤ (a1 : Int) := by omega
      have i1 : (a1 : Int) < (n : Int) := by omega
      by_cases hz : a1 = a
      · have f3 : ((a1 : Int) - (a : Int) == 0) = true := by simp; omega
        have HZE := Lib.hid hz
        clear hz
        cases first with
        | true =>
          have HN : Hid (smpM l kind top a true = none) := by show _ = _; unfold smpM; rw [HGA.out]; simp only []; rw [if_pos (.inl ⟨HZE.out, by simp⟩)]
          go_wp2_with fail
          go_quiet (fail)
          go_wp2_with fail
          go_ret2
          exact ⟨HGQ.out _, a1, HRQ.out _, by rw [HN.out]; exact ⟨_, rfl⟩⟩
        | false =>
          by_cases hk : kind = 1
          · have f4 : (kind != 1) = false := by simp [hk]
            have d9 : decide (1 < kind) = false := decide_eq_false (by omega)
            have HK := Lib.hid hk
            clear hk
            obtain ⟨b9, o9, rfl, hcell⟩ := byte_at HZ1.out (show a1 < n by omega)
            obtain ⟨x, hx⟩ : ∃ x, l.getD a1 0 = x := ⟨_, rfl⟩
            rw [hx] at hcell
            have hxb := getD_wf HWF.out a1
            rw [hx] at hxb
            have HS : Hid (smpM l kind top a false = if x = 48 ∨ x = 49 then some (x - 48, a1 + 1) else none) := by
              show _ = _; unfold smpM; rw [HGA.out]; simp only []; rw [if_neg (by rintro (⟨h, h'⟩ | h) <;> first | exact absurd HK.out (by rcases h' with h' | h' <;> first | cases h' | exact h') | exact HLT.out h), if_pos HK.out, hx]
            clear hx
            go_wp2_with fail
            go_quiet (fail)
            go_wp2_with fail
            obtain ⟨q1, rfl⟩ : ∃ q, q = nq := ⟨nq, rfl⟩
            go_quiet (fail)
            obtain ⟨m, hm⟩ : ∃ m, q1 + nq = m := ⟨_, rfl⟩
            have HG2 : Hid (w.grownBy (w1.drewN m) (some rb)) := HGQ.out _
            have HR2 : Hid ((w1.drewN m).heap[rb]? = some (.cells (rdA (some ⟨b9, o9, none⟩) n c a1 kind W H top) 54 (0, 0))) := HRQ.out _
            clear hcell c0 c1 c2 c3 c4 c5 HGQ HRQ HR1
            obtain ⟨c0, c1, c2, c3, c4, c5⟩ := cells6 HR2.out
            have hf1 := frozen6 HR2.out 1
            have HRS : Hid (((w1.drewN m).setCell ⟨rb, 1, none⟩ (.int .i64 ((a1 : Int) + 1))).heap[rb]? = some (.cells (rdA (some ⟨b9, o9, none⟩) n c (a1 + 1) kind W H top) 54 (0, 0))) := rd_set1 HR2.out
            have HGS : Hid (w.grownBy ((w1.drewN m).setCell ⟨rb, 1, none⟩ (.int .i64 ((a1 : Int) + 1))) (some rb)) := grown_set HG2.out _ _
            simp only [World.drewN_drewN, hm]
            clear hm
            generalize w1.drewN m = W2 at c0 c1 c2 c3 c4 c5 hf1 HRS HGS ⊢
            by_cases h48 : x = 48
            · have e1 : (x - 48 == 0) = true := by simp [h48]
              have HN : Hid (smpM l kind top a false = some (x - 48, a1 + 1)) := by show _ = _; rw [HS.out, if_pos (.inl h48)]
              clear h48
              go_wp2_with fail
              go_ret2
              exact ⟨HGS.out, a1 + 1, HRS.out, by rw [HN.out]; exact ⟨rfl, rfl⟩⟩
            · have e1 : (x - 48 == 0) = false := by simp; omega
              by_cases h49 : x = 49
              · have e2 : (x - 48 == 1) = true := by simp; omega
                have HN : Hid (smpM l kind top a false = some (x - 48, a1 + 1)) := by show _ = _; rw [HS.out, if_pos (.inr h49)]
                clear h49
                go_wp2_with fail
                go_ret2
                exact ⟨HGS.out, a1 + 1, HRS.out, by rw [HN.out]; exact ⟨rfl, rfl⟩⟩
              · have e2 : (x - 48 == 1) = false := by simp; omega
                have HN : Hid (smpM l kind top a false = none) := by show _ = _; rw [HS.out, if_neg (by omega)]
                go_wp2_with fail
                go_ret2
                exact ⟨HGS.out, a1 + 1, HRS.out, by rw [HN.out]; exact ⟨_, rfl⟩⟩
          · have f4 : (kind != 1) = true := by simp [hk]
            have HK : Hid (¬ kind = 1) := hk
            clear hk
            have HN : Hid (smpM l kind top a false = none) := by show _ = _; unfold smpM; rw [HGA.out]; simp only []; rw [if_pos (.inl ⟨HZE.out, .inr HK.out⟩)]
            go_wp2_with fail
            go_quiet (fail)
            go_wp2_with fail
            go_ret2
            exact ⟨HGQ.out _, a1, HRQ.out _, by rw [HN.out]; exact ⟨_, rfl⟩⟩
      · have f3 : ((a1 : Int) - (a : Int) == 0) = false := by simp; omega
        have HZE : Hid (¬ a1 = a) := hz
        by_cases hk : kind = 1
        · have f4 : (kind != 1) = false := by simp [hk]
          have d9 : decide (1 < kind) = false := decide_eq_false (by omega)
          have HK := Lib.hid hk
          clear hk
          obtain ⟨b9, o9, rfl, hcell⟩ := byte_at HZ1.out (show a1 < n by omega)
          obtain ⟨x, hx⟩ : ∃ x, l.getD a1 0 = x := ⟨_, rfl⟩
          rw [hx] at hcell
          have hxb := getD_wf HWF.out a1
          rw [hx] at hxb
          have HS : Hid (smpM l kind top a first = if x = 48 ∨ x = 49 then some (x - 48, a1 + 1) else none) := by
            show _ = _; unfold smpM; rw [HGA.out]; simp only []; rw [if_neg (by rintro (⟨h, h'⟩ | h) <;> first | exact HZE.out h | exact HLT.out h), if_pos HK.out, hx]
          clear hx
          go_wp2_with fail
          go_quiet (fail)
          go_wp2_with fail
          obtain ⟨q1, rfl⟩ : ∃ q, q = nq := ⟨nq, rfl⟩
          go_quiet (fail)
          obtain ⟨m, hm⟩ : ∃ m, q1 + nq = m := ⟨_, rfl⟩
          have HG2 : Hid (w.grownBy (w1.drewN m) (some rb)) := HGQ.out _
          have HR2 : Hid ((w1.drewN m).heap[rb]? = some (.cells (rdA (some ⟨b9, o9, none⟩) n c a1 kind W H top) 54 (0, 0))) := HRQ.out _
          clear hcell c0 c1 c2 c3 c4 c5 HGQ HRQ HR1
          obtain ⟨c0, c1, c2, c3, c4, c5⟩ := cells6 HR2.out
          have hf1 := frozen6 HR2.out 1
          have HRS : Hid (((w1.drewN m).setCell ⟨rb, 1, none⟩ (.int .i64 ((a1 : Int) + 1))).heap[rb]? = some (.cells (rdA (some ⟨b9, o9, none⟩) n c (a1 + 1) kind W H top) 54 (0, 0))) := rd_set1 HR2.out
          have HGS : Hid (w.grownBy ((w1.drewN m).setCell ⟨rb, 1, none⟩ (.int .i64 ((a1 : Int) + 1))) (some rb)) := grown_set HG2.out _ _
          simp only [World.drewN_drewN, hm]
          clear hm
          generalize w1.drewN m = W2 at c0 c1 c2 c3 c4 c5 hf1 HRS HGS ⊢
          by_cases h48 : x = 48
          · have e1 : (x - 48 == 0) = true := by simp [h48]
            have HN : Hid (smpM l kind top a first = some (x - 48, a1 + 1)) := by show _ = _; rw [HS.out, if_pos (.inl h48)]
            clear h48
            go_wp2_with fail
            go_ret2
            exact ⟨HGS.out, a1 + 1, HRS.out, by rw [HN.out]; exact ⟨rfl, rfl⟩⟩
          · have e1 : (x - 48 == 0) = false := by simp; omega
            by_cases h49 : x = 49
            · have e2 : (x - 48 == 1) = true := by simp; omega
              have HN : Hid (smpM l kind top a first = some (x - 48, a1 + 1)) := by show _ = _; rw [HS.out, if_pos (.inr h49)]
              clear h49
              go_wp2_with fail
              go_ret2
              exact ⟨HGS.out, a1 + 1, HRS.out, by rw [HN.out]; exact ⟨rfl, rfl⟩⟩
            · have e2 : (x - 48 == 1) = false := by simp; omega
              have HN : Hid (smpM l kind top a first = none) := by show _ = _; rw [HS.out, if_neg (by omega)]
              go_wp2_with fail
              go_ret2
              exact ⟨HGS.out, a1 + 1, HRS.out, by rw [HN.out]; exact ⟨_, rfl⟩⟩
        · have f4 : (kind != 1) = true := by simp [hk]
          have HK : Hid (¬ kind = 1) := hk
          have HS : Hid (smpM l kind top a first = match numM l a1 with | none => none | some (v, e) => if top < v then none else some (v, e)) := by
            show _ = _; unfold smpM; rw [HGA.out]; simp only []; rw [if_neg (by rintro (⟨h, h'⟩ | h) <;> first | exact HZE.out h | exact HLT.out h), if_neg HK.out]
            cases numM l a1 <;> rfl
          have d9 : decide (1 < kind) = true := decide_eq_true (by have := HK.out; omega)
          go_wp2_with fail
          go_quiet (fail)
          go_wp2_with fail
          have HNUM := Lib.hid (pnumber_any (lo := 0) (hi := top) (w1.drewN nq) (HRQ.out nq) (Ard.si_drewN HZ1.out nq) (Off.kept HOF.out (HGQ.out nq)) hnc (by have := HLEN.out; omega))
          refine HNUM.out.mono ?_
          rintro e w2 hres
          have HP := Lib.hid (NumP.after (HGQ.out nq) hres)
          clear hres HNUM
          obtain ⟨hg2, a2, hr2, hres⟩ := HP.out
          have HG2 := Lib.hid hg2
          have HR2 := Lib.hid hr2
          clear hg2 hr2 HP
          cases hn : numM l a1 with
          | none =>
            rw [hn] at hres
            obtain rfl := hres
            have HN : Hid (smpM l kind top a first = none) := by show _ = _; rw [HS.out, hn]
            clear hn
            go_wp2_with fail
            go_ret2
            exact ⟨HG2.out, a2, HR2.out, by rw [HN.out]; exact ⟨_, rfl⟩⟩
          | some vg =>
            obtain ⟨v, g⟩ := vg
            rw [hn] at hres
            obtain ⟨rfl, rfl⟩ := hres
            have hvb := numM_bd hn
            by_cases htv : top < v
            · have HN : Hid (smpM l kind top a first = none) := by show _ = _; rw [HS.out, hn]; simp only []; rw [if_pos htv]
              rw [show (decide (0 ≤ v) && decide (v ≤ top)) = false by rw [Bool.and_eq_false_iff]; simp only [decide_eq_false_iff_not]; omega]
              clear hn
              go_wp2_with fail
              go_ret2
              exact ⟨HG2.out, a2, HR2.out, by rw [HN.out]; exact ⟨_, rfl⟩⟩
            · have HN : Hid (smpM l kind top a first = some (v, a2)) := by show _ = _; rw [HS.out, hn]; simp only []; rw [if_neg htv]
              rw [show (decide (0 ≤ v) && decide (v ≤ top)) = true by rw [Bool.and_eq_true, decide_eq_true_eq, decide_eq_true_eq]; omega]
              clear hn
              go_wp2_with fail
              go_ret2
              exact ⟨HG2.out, a2, HR2.out, by rw [HN.out]; exact ⟨rfl, rfl⟩⟩
end Go.Proofs.YtbmlopklhgladaaDoor.Pnm
set_option linter.unusedVariables false
set_option linter.unusedSimpArgs false
namespace Go.Proofs.YtbmlopklhgladaaDoor.Pnm
open Go.RowKit K Ian

def sLen : Value → Nat
  | .slice _ n _ => n
  | _ => 0
/-- the reader, wherever it stands -/
def RdAt (rb : Nat) (A : Option Addr) (n c : Nat) (kind W H top : Int) (w' : World) : Prop := ∃ a' : Nat, w'.heap[rb]? = some (.cells (rdA A n c a' kind W H top) 54 (0, 0))
def PSmpP (w : World) (rb : Nat) (R : World → Prop) (o : Option (List Int)) (e : Ending) (w' : World) : Prop :=
  w.grownBy w' (some rb) ∧ R w' ∧ match o with
  | none => ∃ v, e = .returned (.tuple #[v, .bool false])
  | some out => ∃ A c, e = .returned (.tuple #[.slice A out.length c, .bool true]) ∧ w'.ownsRow w.heap.size 3 1 (.slice A out.length c) out.length (out.map (.int .i64))
/-- while the program reads samples -/
structure PSm (w wr : World) (rb : Nat) (A : Option Addr) (n c a : Nat) (kind W H top : Int) (Ao : Option Addr) (co : Nat) (out : List Int) : Prop where
  gr : w.grownBy wr (some rb)
  row : wr.heap[rb]? = some (.cells (rdA A n c a kind W H top) 54 (0, 0))
  own : wr.ownsRow w.heap.size 3 1 (.slice Ao out.length co) out.length (out.map (.int .i64))
theorem PSm.next {w wr w' : World} {rb n c a a' : Nat} {A Ao : Option Addr} {co : Nat} {kind W H top : Int} {out : List Int} (h : PSm w wr rb A n c a kind W H top Ao co out) (hrb : rb < w.heap.size) (hg : wr.grownBy w' (some rb)) (hr : w'.heap[rb]? = some (.cells (rdA A n c a' kind W H top) 54 (0, 0))) : PSm w w' rb A n c a' kind W H top Ao co out :=
  ⟨grown_trans h.gr hg, hr, h.own.kept hg (.inr (fun e => by have := (h.own.lt _ e).1; omega))⟩
theorem PSm.push {w wr w' : World} {rb n c a g cap co : Nat} {A Ao : Option Addr} {kind W H top v : Int} {out : List Int} {o : Obj} (h : PSm w wr rb A n c a kind W H top Ao co out) (hrb : rb < w.heap.size) (hg : (wr.alloc o).grownBy w' (Value.slice Ao out.length co).ownBlock) (ho : w'.ownsRow w.heap.size 3 1 (.slice (some ⟨g, 0, none⟩) (out.length + 1) cap) (out.length + 1) (out.map (.int .i64) ++ [.int .i64 v])) : PSm w w' rb A n c a kind W H top (some ⟨g, 0, none⟩) cap (out ++ [v]) := by
  have hs := h.gr.size
  have hne : ∀ i, i < w.heap.size → some i ≠ (Value.slice Ao out.length co).ownBlock := fun i hi e => by have := (h.own.lt i e.symm).1; omega
  refine ⟨⟨hg.os.trans h.gr.os, hg.tape.trans h.gr.tape, hg.output.trans h.gr.output, Nat.le_trans hs (Nat.le_trans (by simp) hg.size), fun i hi hir => ?_⟩, ?_, ?_⟩
  · rw [hg.block i (by simp; omega) (hne i hi)]
    exact (((Below.refl wr.heap.size wr).alloc (Nat.le_refl _) o).block i (by omega)).trans (h.gr.block i hi hir)
  · rw [hg.block rb (by simp; omega) (hne rb hrb)]
    exact (((Below.refl wr.heap.size wr).alloc (Nat.le_refl _) o).block rb (by omega)).trans h.row
  · rw [List.length_append, List.map_append]; exact ho
set_option maxRecDepth 20000 in
set_option maxHeartbeats 8000000 in
theorem psmp_plain {rb n c a N : Nat} {A : Option Addr} {l : List Int} {kind W H top : Int} (w : World) (hrow : w.heap[rb]? = some (.cells (rdA A n c a kind W H top) 54 (0, 0))) (HA : SI w .u8 A n l) (hwf : ∀ x ∈ l, 0 ≤ x ∧ x < 256) (hoff : Off w rb A) (hnc : n ≤ c) (HV : Vars w) (hrb : vb ≤ rb) (ha : a ≤ n) (hk1 : 1 ≤ kind) (hk3 : kind < 4) (hN : N ≤ 1048576) :
    Calls Tryd.prog 23 #[.pointer (some ⟨rb, 0, none⟩), .int .i64 N] w (PSmpP w rb (RdAt rb A n c kind W H top) ((plainM l kind top a N).map (·.1))) := by
  have HAA := Lib.hid HA
  have HWF := Lib.hid hwf
  have HLEN := Lib.hid HA.len
  have HOF := Lib.hid hoff
  have HVV := Lib.hid HV
  have hbig := HA.bigb
  have hrl : rb < w.heap.size := (Array.getElem?_eq_some_iff.1 hrow).1
  have HR := Lib.hid hrow
  clear hrow HA hwf hoff HV
  have i0 : (0 : Int) ≤ (N : Int) := by omega
  go_enter Tryd.func23, Tryd.ntmps23
  obtain ⟨iI, hiI, hz0, hz1, hz2⟩ := info_parts Ard.infoInt
  have HII : Hid (Tryd.prog.info? 3 = some iI ∧ iI.zero = some (.int .i64 0) ∧ iI.size = 1 ∧ iI.bytes = 8) := ⟨hiI, hz0, hz1, hz2⟩
  clear hiI hz0 hz1 hz2
  go_wp2_with (refine wpList_make_own w rfl (.const (.int .i64 0)) (.tmp 16) 55 rfl w.heap.size 3 iI (.int .i64 0) 1 Tryd.underlying55 HII.out.1 HII.out.2.1 HII.out.2.2.1 .i64 .i64 (N : Int) N rfl rfl rfl (by rw [HII.out.2.2.2]; omega) (by unfold maxLen; omega) (Nat.le_refl _) ?_)
  intro w0 hown0 hg0
  have HS0 : Hid (PSm w w0 rb A n c a kind W H top (some ⟨w.heap.size, 0, none⟩) N []) := ⟨hg0.but _, (hg0.block _ hrl (by simp)).trans HR.out, hown0⟩
  clear hown0 hg0
  obtain ⟨c0, c1, c2, c3, c4, c5⟩ := cells6 HS0.out.row
  generalize w.heap.size = bo at HS0 ⊢
  obtain ⟨b1, e1⟩ : ∃ b, (kind == 1) = b := ⟨_, rfl⟩
  obtain ⟨b2, e2⟩ : ∃ b, (kind == 2) = b := ⟨_, rfl⟩
  obtain ⟨b3, e3⟩ : ∃ b, (kind == 3) = b := ⟨_, rfl⟩
  have hb : b1 = true ∨ (b1 = false ∧ b2 = true) ∨ (b1 = false ∧ b2 = false ∧ b3 = true) := by
    rcases (by omega : kind = 1 ∨ kind = 2 ∨ kind = 3) with h | h | h
    · left; rw [← e1, h]; rfl
    · right; left; rw [← e1, ← e2, h]; exact ⟨rfl, rfl⟩
    · right; right; rw [← e1, ← e2, ← e3, h]; exact ⟨rfl, rfl, rfl⟩
  rcases hb with rfl | ⟨rfl, rfl⟩ | ⟨rfl, rfl, rfl⟩
  all_goals
    go_wp2_with fail
    clear c0 c1 c2 c3 c4 c5 e1 e2 e3
    go_loopw [6] (fun so wr => ∃ (k a1 : Nat) (A1 : Option Addr) (co : Nat) (out : List Int), out.length = k ∧ k ≤ N ∧ so = .slice A1 k co ∧ Hid (plainM l kind top a k = some (out, a1)) ∧ Hid (PSm w wr rb A n c a1 kind W H top A1 co out)) (fun so _ => N - sLen so)
    case atStart => exact ⟨0, a, _, N, [], rfl, by omega, rfl, rfl, HS0⟩
    case round =>
      obtain ⟨k, a1, A1, co, out, ho, hk, rfl, HP, HS⟩ := hrel
      have HOL := Lib.hid ho
      clear ho HS0
      have ha1 : a1 ≤ n := by have := (plainM_bd HP.out (by have := HLEN.out; omega)).2; have := HLEN.out; omega
      by_cases hlt : k < N
      · have d1 : decide ((k : Int) < (N : Int)) = true := decide_eq_true (by omega)
        obtain ⟨fb, hfb⟩ : ∃ b, ((k : Int) == 0) = b := ⟨_, rfl⟩
        have hfd : Hid (fb = decide (k = 0)) := by
          show _ = _
          rw [← hfb]
          by_cases h0 : k = 0
          · simp [h0]
          · simp [h0]
        have HNX := Lib.hid (pnext_any (first := fb) wr HS.out.row (SI.kept HAA.out HS.out.gr HOF.out) HWF.out (Off.kept HOF.out HS.out.gr) hnc (Vars.grown HVV.out HS.out.gr hrb) hrb ha1 hk1)
        have hfail : Hid (smpM l kind top a1 fb = none → (plainM l kind top a N).map (·.1) = none) := fun hs => by
          rw [hfd.out] at hs
          rw [plainM_none (k := k + 1) (by rw [plainM, HP.out]; simp only []; rw [hs]) hlt]; rfl
        have hstep : Hid (∀ v e, smpM l kind top a1 fb = some (v, e) → plainM l kind top a (k + 1) = some (out ++ [v], e)) := fun v e hs => by
          rw [hfd.out] at hs
          rw [plainM, HP.out]; simp only []; rw [hs]
        go_wp2_with fail
        refine HNX.out.mono ?_
        rintro e w1 ⟨hg1, a2, hr1, hres⟩
        have HS1 := Lib.hid (HS.out.next hrl hg1 hr1)
        clear hg1 hr1 HNX hfb
        cases hsm : smpM l kind top a1 fb with
        | none =>
          rw [hsm] at hres
          obtain ⟨v, rfl⟩ := hres
          have HF := Lib.hid (hfail.out hsm)
          clear hsm hfail hstep
          go_wp2_with fail
          go_ret2
          rw [HF.out]
          exact ⟨HS1.out.gr, ⟨_, HS1.out.row⟩, _, rfl⟩
        | some vg =>
          obtain ⟨v, g⟩ := vg
          rw [hsm] at hres
          obtain ⟨rfl, rfl⟩ := hres
          have HPN := Lib.hid (hstep.out v a2 hsm)
          have hbase : ∀ o, w.heap.size ≤ (w1.alloc o).heap.size := fun o => by rw [World.size_alloc]; have := HS1.out.gr.size; omega
          clear hsm hfail hstep
          have HOW : Hid (w1.ownsRow w.heap.size 3 1 (.slice A1 k co) k (out.map (.int .i64))) := by have := HS1.out.own; rw [HOL.out] at this; exact this
          go_wp2_with (at_builtin; refine Ard.wpList_push rfl (.tmp 40) (.tmp 42) _ rfl w.heap.size 3 1 8 _ Tryd.underlying55 Ard.infoInt rfl (by omega) (.slice A1 k co) k (out.map (.int .i64)) rfl (HOW.out.alloc _) w1.heap.size 1 1 [.int .i64 v] 3 rfl rfl (heap_alloc_new w1 _) ?c2 (by omega) ?c3 ?c4 ?c5 _ rfl ?_)
          case c2 => simp [Value.oneCell']
          case c3 => unfold maxLen; omega
          case c4 => omega
          case c5 => exact hbase _
          intro g cap w5 hown5 hg5 _ _
          have HS5 : Hid (PSm w w5 rb A n c a2 kind W H top (some ⟨g, 0, none⟩) cap (out ++ [v])) := HS1.out.push hrl (by rw [HOL.out]; exact hg5) (by rw [HOL.out]; exact hown5)
          clear hown5 hg5 hbase HOW
          go_wp2_with fail
          refine ⟨⟨k + 1, a2, _, _, out ++ [v], by rw [List.length_append, HOL.out]; rfl, by omega, rfl, HPN, HS5⟩, ?_⟩
          simp [sLen]; omega
      · obtain rfl : k = N := by omega
        have d1 : decide ((k : Int) < (k : Int)) = false := by simp
        go_wp2_with fail
        go_ret2
        rw [HP.out]
        exact ⟨HS.out.gr, ⟨_, HS.out.row⟩, A1, co, by rw [HOL.out]; rfl, HS.out.own⟩
end Go.Proofs.YtbmlopklhgladaaDoor.Pnm
set_option linter.unusedVariables false
set_option linter.unusedSimpArgs false
namespace Go.Proofs.YtbmlopklhgladaaDoor.Pnm
open Go.RowKit K Ian

theorem PSm.drewN {w wr : World} {rb n c a : Nat} {A Ao : Option Addr} {co : Nat} {kind W H top : Int} {out : List Int} (h : PSm w wr rb A n c a kind W H top Ao co out) (q : Nat) : PSm w (wr.drewN q) rb A n c a kind W H top Ao co out :=
  ⟨grown_drewN h.gr q, h.row, h.own.kept (grown_below (below_drewN (Below.refl wr.heap.size wr) q) none) (by cases (Value.slice Ao out.length co).ownBlock <;> simp)⟩
theorem quiet_space {x : Int} {w : World} {n : Nat} {s : Bool} (h : spaceB x = s) : Calls Tryd.prog 43 #[.int .u8 x] (w.drewN n) fun e w'' => e = .returned (.bool s) ∧ ∃ m, w'' = w.drewN m :=
  Calls.quiet_of_same ((pspace_any x _).mono fun e w' hh => ⟨by rw [hh.1, h], hh.2.symm⟩)
set_option maxRecDepth 20000 in
set_option maxHeartbeats 8000000 in
theorem psmp_none {rb n c a N : Nat} {A : Option Addr} {l : List Int} {kind W H top : Int} (w : World) (hrow : w.heap[rb]? = some (.cells (rdA A n c a kind W H top) 54 (0, 0))) (HA : SI w .u8 A n l) (hwf : ∀ x ∈ l, 0 ≤ x ∧ x < 256) (hoff : Off w rb A) (hnc : n ≤ c) (hk4 : 4 ≤ kind) (hN : N ≤ 1048576) (ha : a ≤ n) (hs : a = n ∨ ¬ spaceB (l.getD a 0) = true) :
    Calls Tryd.prog 23 #[.pointer (some ⟨rb, 0, none⟩), .int .i64 N] w (PSmpP w rb (RdAt rb A n c kind W H top) (rawM l ⟨kind, W, H, top, a⟩ N)) := by
  have HF : Hid (rawM l ⟨kind, W, H, top, a⟩ N = none) := by
    show _ = _
    unfold rawM
    rw [if_pos (by have := HA.len; rcases hs with h1 | h1; exact .inl (by simp only; omega); exact .inr h1)]
  
  have HAA := Lib.hid HA
  have HWF := Lib.hid hwf
  have HLEN := Lib.hid HA.len
  have HOF := Lib.hid hoff
  have hbig := HA.bigb
  have hrl : rb < w.heap.size := (Array.getElem?_eq_some_iff.1 hrow).1
  have HR := Lib.hid hrow
  clear hrow HA hwf hoff
  have iN : (0 : Int) ≤ (N : Int) := by omega
  obtain ⟨iI, hiI, hz0, hz1, hz2⟩ := info_parts Ard.infoInt
  have HII : Hid (Tryd.prog.info? 3 = some iI ∧ iI.zero = some (.int .i64 0) ∧ iI.size = 1 ∧ iI.bytes = 8) := ⟨hiI, hz0, hz1, hz2⟩
  clear hiI hz0 hz1 hz2
  have e1 : (kind == 1) = false := by simp; omega
  have e2 : (kind == 2) = false := by simp; omega
  have e3 : (kind == 3) = false := by simp; omega
  go_enter Tryd.func23, Tryd.ntmps23
  go_wp2_with (refine wpList_make_own w rfl (.const (.int .i64 0)) (.tmp 16) 55 rfl w.heap.size 3 iI (.int .i64 0) 1 Tryd.underlying55 HII.out.1 HII.out.2.1 HII.out.2.2.1 .i64 .i64 (N : Int) N rfl rfl rfl (by rw [HII.out.2.2.2]; omega) (by unfold maxLen; omega) (Nat.le_refl _) ?_)
  intro w0 hown0 hg0
  have HS0 : Hid (PSm w w0 rb A n c a kind W H top (some ⟨w.heap.size, 0, none⟩) N []) := ⟨hg0.but _, (hg0.block _ hrl (by simp)).trans HR.out, hown0⟩
  clear hown0 hg0
  obtain ⟨c0, c1, c2, c3, c4, c5⟩ := cells6 HS0.out.row
  generalize w.heap.size = bo at HS0 ⊢
  have HZ0 := Lib.hid (SI.kept HAA.out HS0.out.gr HOF.out)
  
  have HSQ : Hid (∀ q, w.grownBy (w0.drewN q) (some rb)) := fun q => (HS0.out.drewN q).gr
  by_cases han : a = n
  · have d1 : ((a : Int) == (n : Int)) = true := by simp [han]
    clear han hs
    go_wp2_with fail
    go_quiet (fail)
    go_wp2_with fail
    go_ret2
    rw [HF.out]
    exact ⟨HSQ.out _, ⟨_, (HS0.out.drewN _).row⟩, _, rfl⟩
  · have d1 : ((a : Int) == (n : Int)) = false := by simp; omega
    have hsp : spaceB (l.getD a 0) = false := by rcases hs with h1 | h1; exact absurd h1 han; exact Bool.eq_false_iff.2 h1
    obtain ⟨b1, o1, rfl, hcell⟩ := byte_at HZ0.out (show a < n by omega)
    generalize l.getD a 0 = x at hcell hsp
    clear hs
    have i0 : (0 : Int) ≤ (a : Int) := by omega
    have i1 : (a : Int) < (n : Int) := by omega
    have HSP := Lib.hid hsp
    clear hsp
    go_wp2_with fail
    go_quiet ((go_at_call 43; exact quiet_space HSP.out))
    go_wp2_with fail
    go_ret2
    rw [HF.out]
    exact ⟨HSQ.out _, ⟨_, (HS0.out.drewN _).row⟩, _, rfl⟩
set_option maxRecDepth 20000 in
set_option maxHeartbeats 8000000 in
theorem psmp_vals {rb n c a N : Nat} {A : Option Addr} {l : List Int} {kind W H top : Int} (w : World) (hrow : w.heap[rb]? = some (.cells (rdA A n c a kind W H top) 54 (0, 0))) (HA : SI w .u8 A n l) (hwf : ∀ x ∈ l, 0 ≤ x ∧ x < 256) (hoff : Off w rb A) (hnc : n ≤ c) (hk4 : 4 ≤ kind) (hN : N ≤ 1048576) (ha : a < n) (hs : spaceB (l.getD a 0) = true) (hk : kind ≠ 4) :
    Calls Tryd.prog 23 #[.pointer (some ⟨rb, 0, none⟩), .int .i64 N] w (PSmpP w rb (RdAt rb A n c kind W H top) (rawM l ⟨kind, W, H, top, a⟩ N)) := by
  obtain ⟨size, hsz⟩ : ∃ s : Nat, (if 255 < top then 2 else 1) = s := ⟨_, rfl⟩
  have HRM : Hid (rawM l ⟨kind, W, H, top, a⟩ N = if n - (a + 1) < size * N then none else rawV l (a + 1) size top N) := by
    show _ = _
    have := HA.len
    unfold rawM
    rw [if_neg (by rintro (h1 | h1); simp only at h1; omega; exact h1 hs), if_neg hk, hsz, this]
  have e4 : (kind == 4) = false := by simp [hk]
  
  have HAA := Lib.hid HA
  have HWF := Lib.hid hwf
  have HLEN := Lib.hid HA.len
  have HOF := Lib.hid hoff
  have hbig := HA.bigb
  have hrl : rb < w.heap.size := (Array.getElem?_eq_some_iff.1 hrow).1
  have HR := Lib.hid hrow
  clear hrow HA hwf hoff
  have iN : (0 : Int) ≤ (N : Int) := by omega
  obtain ⟨iI, hiI, hz0, hz1, hz2⟩ := info_parts Ard.infoInt
  have HII : Hid (Tryd.prog.info? 3 = some iI ∧ iI.zero = some (.int .i64 0) ∧ iI.size = 1 ∧ iI.bytes = 8) := ⟨hiI, hz0, hz1, hz2⟩
  clear hiI hz0 hz1 hz2
  have e1 : (kind == 1) = false := by simp; omega
  have e2 : (kind == 2) = false := by simp; omega
  have e3 : (kind == 3) = false := by simp; omega
  go_enter Tryd.func23, Tryd.ntmps23
  go_wp2_with (refine wpList_make_own w rfl (.const (.int .i64 0)) (.tmp 16) 55 rfl w.heap.size 3 iI (.int .i64 0) 1 Tryd.underlying55 HII.out.1 HII.out.2.1 HII.out.2.2.1 .i64 .i64 (N : Int) N rfl rfl rfl (by rw [HII.out.2.2.2]; omega) (by unfold maxLen; omega) (Nat.le_refl _) ?_)
  intro w0 hown0 hg0
  have HS0 : Hid (PSm w w0 rb A n c a kind W H top (some ⟨w.heap.size, 0, none⟩) N []) := ⟨hg0.but _, (hg0.block _ hrl (by simp)).trans HR.out, hown0⟩
  clear hown0 hg0
  obtain ⟨c0, c1, c2, c3, c4, c5⟩ := cells6 HS0.out.row
  generalize w.heap.size = bo at HS0 ⊢
  have HZ0 := Lib.hid (SI.kept HAA.out HS0.out.gr HOF.out)
  
  obtain ⟨b1, o1, rfl, hcell⟩ := byte_at HZ0.out ha
  generalize l.getD a 0 = x at hcell hs
  have i0 : (0 : Int) ≤ (a : Int) := by omega
  have i1 : (a : Int) < (n : Int) := by omega
  have d1 : ((a : Int) == (n : Int)) = false := by simp; omega
  have HSP := Lib.hid hs
  clear hs
  go_wp2_with fail
  go_quiet ((go_at_call 43; exact quiet_space HSP.out))
  obtain ⟨q1, rfl⟩ : ∃ q, q = nq := ⟨nq, rfl⟩
  have j0 : (0 : Int) ≤ (a : Int) + 1 := by omega
  have j1 : (a : Int) + 1 ≤ (n : Int) := by omega
  have j2 : (n : Int) ≤ (c : Int) := by omega
  have w1 : IntKind.i64.wrap ((a : Int) + 1) = (a : Int) + 1 := IntWalk.i64_in _ (by omega)
  obtain ⟨ob, hob, HOB⟩ : ∃ ob, (if c = a + 1 then (some ⟨b1, o1, none⟩ : Option Addr) else some ⟨b1, o1 + (a + 1), none⟩) = some ⟨b1, ob, none⟩ ∧ Hid (a + 1 < n → ob = o1 + (a + 1)) := by
    by_cases h : c = a + 1
    · exact ⟨o1, by rw [if_pos h], fun h2 => by omega⟩
    · exact ⟨_, by rw [if_neg h], fun _ => rfl⟩
  go_wp2_with fail
  go_quiet (fail)
  try simp only [hob]
  have HS1 : Hid (PSm w (w0.drewN (q1 + nq)) rb (some ⟨b1, o1, none⟩) n c a kind W H top (some ⟨bo, 0, none⟩) N []) := HS0.out.drewN _
  clear c0 c1 c2 c3 c4 c5 hcell hob HS0 HZ0
  go_upto_region 15 with (fail)
  try simp only [World.drewN_drewN]
  generalize w0.drewN (q1 + nq) = W1 at HS1 ⊢
  obtain ⟨c0, c1, c2, c3, c4, c5⟩ := cells6 HS1.out.row
  
  go_upto_if 138 with (fail)
  go_cut [13] (fun s13 wx => s13 = .int .i64 (size : Int) ∧ wx = W1)
  case first =>
    by_cases ht : 255 < top
    · have t1 : decide (255 < top) = true := decide_eq_true ht
      rw [if_pos ht] at hsz
      subst hsz
      go_wp2
      go_meet
      exact ⟨rfl, rfl⟩
    · have t1 : decide (255 < top) = false := decide_eq_false ht
      rw [if_neg ht] at hsz
      subst hsz
      go_wp2
      go_meet
      exact ⟨rfl, rfl⟩
  obtain ⟨rfl, rfl⟩ := hcut
  have hb64 : size ≤ 2 := by rw [← hsz]; split <;> omega
  have hs1 : 1 ≤ size := by rw [← hsz]; split <;> omega
  clear hsz c0 c1 c2 c3 c4 c5
  have hprod : size * N ≤ 2097152 := Nat.le_trans (Nat.mul_le_mul_right N hb64) (by omega)
  have hcast : (size : Int) * (N : Int) = ((size * N : Nat) : Int) := by push_cast; rfl
  by_cases hfit : n - (a + 1) < size * N
  · have f1 : decide (((n - (a + 1) : Nat) : Int) < (size : Int) * (N : Int)) = true := decide_eq_true (by rw [hcast]; omega)
    have HF : Hid (rawM l ⟨kind, W, H, top, a⟩ N = none) := by show _ = _; rw [HRM.out, if_pos hfit]
    clear hcast hfit
    go_wp2_with fail
    go_ret2
    rw [HF.out]
    exact ⟨HS1.out.gr, ⟨_, HS1.out.row⟩, _, rfl⟩
  · rcases (by omega : size = 1 ∨ size = 2) with hs | hs
    · subst hs
      rw [show ((1 : Nat) : Int) = 1 from rfl]
      have f1 : decide (((n - (a + 1) : Nat) : Int) < (1 : Int) * (N : Int)) = false := decide_eq_false (by omega)
      have hfn : N ≤ n - (a + 1) := by omega
      have f1n : decide (n - (a + 1) < N) = false := decide_eq_false (by omega)
      clear hcast hprod
      have HFT := Lib.hid hfit
      clear hfit
      go_wp2_with fail
      go_loopw [6, 146] (fun so si wr => ∃ (k : Nat) (A1 : Option Addr) (co : Nat) (out : List Int), k ≤ N ∧ si = .int .i64 k ∧ so = .slice A1 out.length co ∧ Hid (rawV l (a + 1) 1 top k = some out) ∧ Hid (PSm w wr rb (some ⟨b1, o1, none⟩) n c a kind W H top A1 co out)) (fun _ si _ => N - (intOf si).toNat)
      case atStart => exact ⟨0, _, N, [], by omega, rfl, rfl, rfl, HS1⟩
      case round =>
        obtain ⟨k, A1, co, out, hk1, rfl, rfl, HP, HS⟩ := hrel
        have HOL := Lib.hid (rawV_len HP.out)
        obtain ⟨-, -, -, -, -, c5⟩ := cells6 HS.out.row
        by_cases hlt : k < N
        · have d2 : decide ((k : Int) < (N : Int)) = true := decide_eq_true (by omega)
          have hsi := SI.kept HAA.out HS.out.gr HOF.out
          obtain ⟨b2, o2, hA2, hc0⟩ := byte_at hsi (show a + 1 + k < n by omega)
          injection hA2 with hA2
          injection hA2 with q1 q2 q3
          subst q1 q2
          rw [show o1 + (a + 1 + k) = ob + k by rw [HOB.out (by omega)]; omega] at hc0
          have hv := getD_wf HWF.out (a + 1 + k)
          have hval : valI l (a + 1) 1 k = l.getD (a + 1 + k) 0 := by unfold valI; rw [if_neg (by omega)]
          generalize l.getD (a + 1 + k) 0 = v at hc0 hv hval
          have p0 : (0 : Int) ≤ (k : Int) := by omega
          have p1 : (k : Int) < ((n - (a + 1) : Nat) : Int) := by omega
          have HV := Lib.hid hval
          clear hval hsi
          by_cases ht : top < v
          · have g3 : decide (top < v) = true := decide_eq_true ht
            have HF : Hid (rawM l ⟨kind, W, H, top, a⟩ N = none) := by
              show _ = _
              rw [HRM.out, if_neg HFT.out, rawV_none (k := k + 1) (by rw [rawV, HP.out]; simp only []; rw [HV.out, if_pos ht]) hlt]
            go_wp2_with fail
            go_ret2
            rw [HF.out]
            exact ⟨HS.out.gr, ⟨_, HS.out.row⟩, _, rfl⟩
          · have g3 : decide (top < v) = false := decide_eq_false ht
            have HN : Hid (rawV l (a + 1) 1 top (k + 1) = some (out ++ [v])) := by show _ = _; rw [rawV, HP.out]; simp only []; rw [HV.out, if_neg ht]
            have hbase : ∀ o, w.heap.size ≤ (wr.alloc o).heap.size := fun o => by rw [World.size_alloc]; have := HS.out.gr.size; omega
            clear ht
            go_wp2_with (at_builtin; refine Ard.wpList_push rfl (.tmp 174) (.tmp 176) _ rfl w.heap.size 3 1 8 _ Tryd.underlying55 Ard.infoInt rfl (by omega) (.slice A1 out.length co) out.length (out.map (.int .i64)) rfl (HS.out.own.alloc _) wr.heap.size 1 1 [.int .i64 (v)] 3 rfl rfl (heap_alloc_new wr _) ?c2 (by omega) ?c3 ?c4 ?c5 _ rfl ?_)
            case c2 => simp [Value.oneCell']
            case c3 => have := HOL.out; unfold maxLen; omega
            case c4 => have := HOL.out; omega
            case c5 => first | exact hbase _ | (have := HS.out.gr.size; omega)
            intro g cap w5 hown5 hg5 _ _
            have HS5 := Lib.hid (HS.out.push hrl hg5 hown5)
            clear hown5 hg5 hbase hc0
            go_wp2_with fail
            refine ⟨⟨k + 1, some ⟨g, 0, none⟩, cap, out ++ [v], by omega, by go_num, by rw [List.length_append]; rfl, HN, HS5⟩, ?_⟩
            simp [intOf]; omega
        · obtain rfl : k = N := by omega
          have d2 : decide ((k : Int) < (k : Int)) = false := by simp
          have HF : Hid (rawM l ⟨kind, W, H, top, a⟩ k = some out) := by show _ = _; rw [HRM.out, if_neg HFT.out, HP.out]
          go_wp2_with fail
          go_ret2
          rw [HF.out]
          exact ⟨HS.out.gr, ⟨_, HS.out.row⟩, A1, co, rfl, HS.out.own⟩
    · subst hs
      rw [show ((2 : Nat) : Int) = 2 from rfl]
      have f1 : decide (((n - (a + 1) : Nat) : Int) < (2 : Int) * (N : Int)) = false := decide_eq_false (by omega)
      have hfn : 2 * N ≤ n - (a + 1) := by omega
      clear hcast hprod
      have HFT := Lib.hid hfit
      clear hfit
      go_wp2_with fail
      go_loopw [6, 146] (fun so si wr => ∃ (k : Nat) (A1 : Option Addr) (co : Nat) (out : List Int), k ≤ N ∧ si = .int .i64 k ∧ so = .slice A1 out.length co ∧ Hid (rawV l (a + 1) 2 top k = some out) ∧ Hid (PSm w wr rb (some ⟨b1, o1, none⟩) n c a kind W H top A1 co out)) (fun _ si _ => N - (intOf si).toNat)
      case atStart => exact ⟨0, _, N, [], by omega, rfl, rfl, rfl, HS1⟩
      case round =>
        obtain ⟨k, A1, co, out, hk1, rfl, rfl, HP, HS⟩ := hrel
        have HOL := Lib.hid (rawV_len HP.out)
        obtain ⟨-, -, -, -, -, c5⟩ := cells6 HS.out.row
        by_cases hlt : k < N
        · have d2 : decide ((k : Int) < (N : Int)) = true := decide_eq_true (by omega)
          have hsi := SI.kept HAA.out HS.out.gr HOF.out
          obtain ⟨b2, o2, hA2, hc0⟩ := byte_at hsi (show a + 1 + 2 * k < n by omega)
          injection hA2 with hA2
          injection hA2 with q1 q2 q3
          subst q1 q2
          obtain ⟨b2, o2, hA2, hc1⟩ := byte_at hsi (show a + 1 + 2 * k + 1 < n by omega)
          injection hA2 with hA2
          injection hA2 with q1 q2 q3
          subst q1 q2
          rw [show o1 + (a + 1 + 2 * k) = ob + 2 * k by rw [HOB.out (by omega)]; omega] at hc0
          rw [show o1 + (a + 1 + 2 * k + 1) = ob + (2 * k + 1) by rw [HOB.out (by omega)]; omega] at hc1
          have hv := getD_wf HWF.out (a + 1 + 2 * k)
          have hu := getD_wf HWF.out (a + 1 + 2 * k + 1)
          have hval : valI l (a + 1) 2 k = 256 * l.getD (a + 1 + 2 * k) 0 + l.getD (a + 1 + 2 * k + 1) 0 := by unfold valI; rw [if_pos rfl]
          generalize l.getD (a + 1 + 2 * k) 0 = v at hc0 hv hval
          generalize l.getD (a + 1 + 2 * k + 1) 0 = u at hc1 hu hval
          have hor : bits .or .i64 (v * 256) u = 256 * v + u := by rw [i64_or_hi 8 (v * 256) u (by omega) (by omega) (by omega) (by omega) (by omega) (by omega) (by omega)]; omega
          have p0 : (0 : Int) ≤ 2 * (k : Int) := by omega
          have p1 : 2 * (k : Int) < ((n - (a + 1) : Nat) : Int) := by omega
          have p2 : (0 : Int) ≤ 2 * (k : Int) + 1 := by omega
          have p3 : 2 * (k : Int) + 1 < ((n - (a + 1) : Nat) : Int) := by omega
          have HV := Lib.hid hval
          clear hval hsi
          by_cases ht : top < 256 * v + u
          · have g3 : decide (top < 256 * v + u) = true := decide_eq_true ht
            have HF : Hid (rawM l ⟨kind, W, H, top, a⟩ N = none) := by
              show _ = _
              rw [HRM.out, if_neg HFT.out, rawV_none (k := k + 1) (by rw [rawV, HP.out]; simp only []; rw [HV.out, if_pos ht]) hlt]
            go_wp2_with fail
            go_ret2
            rw [HF.out]
            exact ⟨HS.out.gr, ⟨_, HS.out.row⟩, _, rfl⟩
          · have g3 : decide (top < 256 * v + u) = false := decide_eq_false ht
            have HN : Hid (rawV l (a + 1) 2 top (k + 1) = some (out ++ [256 * v + u])) := by show _ = _; rw [rawV, HP.out]; simp only []; rw [HV.out, if_neg ht]
            have hbase : ∀ o, w.heap.size ≤ (wr.alloc o).heap.size := fun o => by rw [World.size_alloc]; have := HS.out.gr.size; omega
            clear ht
            go_wp2_with (at_builtin; refine Ard.wpList_push rfl (.tmp 174) (.tmp 176) _ rfl w.heap.size 3 1 8 _ Tryd.underlying55 Ard.infoInt rfl (by omega) (.slice A1 out.length co) out.length (out.map (.int .i64)) rfl (HS.out.own.alloc _) wr.heap.size 1 1 [.int .i64 (256 * v + u)] 3 rfl rfl (heap_alloc_new wr _) ?c2 (by omega) ?c3 ?c4 ?c5 _ rfl ?_)
            case c2 => simp [Value.oneCell']
            case c3 => have := HOL.out; unfold maxLen; omega
            case c4 => have := HOL.out; omega
            case c5 => first | exact hbase _ | (have := HS.out.gr.size; omega)
            intro g cap w5 hown5 hg5 _ _
            have HS5 := Lib.hid (HS.out.push hrl hg5 hown5)
            clear hown5 hg5 hbase hc0
            go_wp2_with fail
            refine ⟨⟨k + 1, some ⟨g, 0, none⟩, cap, out ++ [256 * v + u], by omega, by go_num, by rw [List.length_append]; rfl, HN, HS5⟩, ?_⟩
            simp [intOf]; omega
        · obtain rfl : k = N := by omega
          have d2 : decide ((k : Int) < (k : Int)) = false := by simp
          have HF : Hid (rawM l ⟨kind, W, H, top, a⟩ k = some out) := by show _ = _; rw [HRM.out, if_neg HFT.out, HP.out]
          go_wp2_with fail
          go_ret2
          rw [HF.out]
          exact ⟨HS.out.gr, ⟨_, HS.out.row⟩, A1, co, rfl, HS.out.own⟩
set_option maxRecDepth 20000 in
set_option maxHeartbeats 8000000 in
theorem psmp_bits {rb n c a N : Nat} {A : Option Addr} {l : List Int} {kind top : Int} {W H : Nat} (w : World) (hrow : w.heap[rb]? = some (.cells (rdA A n c a kind W H top) 54 (0, 0))) (HA : SI w .u8 A n l) (hwf : ∀ x ∈ l, 0 ≤ x ∧ x < 256) (hoff : Off w rb A) (hnc : n ≤ c) (hk4 : 4 ≤ kind) (hN : N ≤ 1048576) (ha : a < n) (hs : spaceB (l.getD a 0) = true) (hk : kind = 4) (hNW : N = W * H) (hW : 1 ≤ W) (hW2 : W ≤ 65536) (hH : H ≤ 65536) :
    Calls Tryd.prog 23 #[.pointer (some ⟨rb, 0, none⟩), .int .i64 N] w (PSmpP w rb (RdAt rb A n c kind W H top) (rawM l ⟨kind, W, H, top, a⟩ N)) := by
  obtain ⟨row, hrw⟩ : ∃ r : Nat, (W + 7) / 8 = r := ⟨_, rfl⟩
  have HRM : Hid (rawM l ⟨kind, W, H, top, a⟩ N = if n - (a + 1) < row * H then none else some ((List.range N).map (bitI l (a + 1) W row))) := by
    show _ = _
    have := HA.len
    unfold rawM
    rw [if_neg (by rintro (h1 | h1); simp only at h1; omega; exact h1 hs), if_pos hk, this]
    simp only [Int.toNat_natCast]
    rw [hrw]
  have HNN := Lib.hid hNW
  have e4 : (kind == 4) = true := by simp [hk]
  clear hNW hk
  
  have HAA := Lib.hid HA
  have HWF := Lib.hid hwf
  have HLEN := Lib.hid HA.len
  have HOF := Lib.hid hoff
  have hbig := HA.bigb
  have hrl : rb < w.heap.size := (Array.getElem?_eq_some_iff.1 hrow).1
  have HR := Lib.hid hrow
  clear hrow HA hwf hoff
  have iN : (0 : Int) ≤ (N : Int) := by omega
  obtain ⟨iI, hiI, hz0, hz1, hz2⟩ := info_parts Ard.infoInt
  have HII : Hid (Tryd.prog.info? 3 = some iI ∧ iI.zero = some (.int .i64 0) ∧ iI.size = 1 ∧ iI.bytes = 8) := ⟨hiI, hz0, hz1, hz2⟩
  clear hiI hz0 hz1 hz2
  have hkk : kind = 4 := by simpa using e4
  have e1 : (kind == 1) = false := by simp; omega
  have e2 : (kind == 2) = false := by simp; omega
  have e3 : (kind == 3) = false := by simp; omega
  clear hkk
  go_enter Tryd.func23, Tryd.ntmps23
  go_wp2_with (refine wpList_make_own w rfl (.const (.int .i64 0)) (.tmp 16) 55 rfl w.heap.size 3 iI (.int .i64 0) 1 Tryd.underlying55 HII.out.1 HII.out.2.1 HII.out.2.2.1 .i64 .i64 (N : Int) N rfl rfl rfl (by rw [HII.out.2.2.2]; omega) (by unfold maxLen; omega) (Nat.le_refl _) ?_)
  intro w0 hown0 hg0
  have HS0 : Hid (PSm w w0 rb A n c a kind W H top (some ⟨w.heap.size, 0, none⟩) N []) := ⟨hg0.but _, (hg0.block _ hrl (by simp)).trans HR.out, hown0⟩
  clear hown0 hg0
  obtain ⟨c0, c1, c2, c3, c4, c5⟩ := cells6 HS0.out.row
  generalize w.heap.size = bo at HS0 ⊢
  have HZ0 := Lib.hid (SI.kept HAA.out HS0.out.gr HOF.out)
  
  obtain ⟨b1, o1, rfl, hcell⟩ := byte_at HZ0.out ha
  generalize l.getD a 0 = x at hcell hs
  have i0 : (0 : Int) ≤ (a : Int) := by omega
  have i1 : (a : Int) < (n : Int) := by omega
  have d1 : ((a : Int) == (n : Int)) = false := by simp; omega
  have HSP := Lib.hid hs
  clear hs
  go_wp2_with fail
  go_quiet ((go_at_call 43; exact quiet_space HSP.out))
  obtain ⟨q1, rfl⟩ : ∃ q, q = nq := ⟨nq, rfl⟩
  have j0 : (0 : Int) ≤ (a : Int) + 1 := by omega
  have j1 : (a : Int) + 1 ≤ (n : Int) := by omega
  have j2 : (n : Int) ≤ (c : Int) := by omega
  have w1 : IntKind.i64.wrap ((a : Int) + 1) = (a : Int) + 1 := IntWalk.i64_in _ (by omega)
  obtain ⟨ob, hob, HOB⟩ : ∃ ob, (if c = a + 1 then (some ⟨b1, o1, none⟩ : Option Addr) else some ⟨b1, o1 + (a + 1), none⟩) = some ⟨b1, ob, none⟩ ∧ Hid (a + 1 < n → ob = o1 + (a + 1)) := by
    by_cases h : c = a + 1
    · exact ⟨o1, by rw [if_pos h], fun h2 => by omega⟩
    · exact ⟨_, by rw [if_neg h], fun _ => rfl⟩
  go_wp2_with fail
  go_quiet (fail)
  try simp only [hob]
  have HS1 : Hid (PSm w (w0.drewN (q1 + nq)) rb (some ⟨b1, o1, none⟩) n c a kind W H top (some ⟨bo, 0, none⟩) N []) := HS0.out.drewN _
  clear c0 c1 c2 c3 c4 c5 hcell hob HS0 HZ0
  go_upto_region 15 with (fail)
  try simp only [World.drewN_drewN]
  generalize w0.drewN (q1 + nq) = W1 at HS1 ⊢
  obtain ⟨c0, c1, c2, c3, c4, c5⟩ := cells6 HS1.out.row
  
  clear e1 e2 e3
  have t8 : ((W : Int) + 7).tdiv 8 = (row : Int) := by rw [Int.tdiv_eq_ediv_of_nonneg (by omega)]; omega
  have t8' : ((W : Int) + 7) / 8 = (row : Int) := by omega
  have hrH : row * H ≤ 8193 * 65536 := Nat.mul_le_mul (by omega) hH
  have hcast : (row : Int) * (H : Int) = ((row * H : Nat) : Int) := by push_cast; rfl
  by_cases hfit : n - (a + 1) < row * H
  · have f1 : decide (((n - (a + 1) : Nat) : Int) < (row : Int) * (H : Int)) = true := decide_eq_true (by rw [hcast]; omega)
    have HF : Hid (rawM l ⟨kind, W, H, top, a⟩ N = none) := by show _ = _; rw [HRM.out, if_pos hfit]
    clear hcast hfit
    go_wp2_with fail
    go_ret2
    rw [HF.out]
    exact ⟨HS1.out.gr, ⟨_, HS1.out.row⟩, _, rfl⟩
  · have f1 : decide (((n - (a + 1) : Nat) : Int) < (row : Int) * (H : Int)) = false := decide_eq_false (by rw [hcast]; omega)
    clear hcast
    have HFIT := Lib.hid hfit
    clear hfit
    go_wp2_with fail
    clear c0 c1 c2 c3 c4 c5
    go_loopw [6, 100] (fun so si wr => ∃ (k : Nat) (A1 : Option Addr) (co : Nat), k ≤ N ∧ si = .int .i64 k ∧ so = .slice A1 ((List.range k).map (bitI l (a + 1) W row)).length co ∧ Hid (PSm w wr rb (some ⟨b1, o1, none⟩) n c a kind W H top A1 co ((List.range k).map (bitI l (a + 1) W row)))) (fun _ si _ => N - (intOf si).toNat)
    case atStart => exact ⟨0, _, N, by omega, rfl, rfl, HS1⟩
    case round =>
      obtain ⟨k, A1, co, hk1, rfl, rfl, HS⟩ := hrel
      obtain ⟨out, hout⟩ : ∃ o, (List.range k).map (bitI l (a + 1) W row) = o := ⟨_, rfl⟩
      have HOL : Hid (out.length = k) := by show _ = _; rw [← hout]; simp
      rw [hout] at HS ⊢
      have HOUT := Lib.hid hout
      clear hout
      obtain ⟨c0, c1, c2, c3, c4, c5⟩ := cells6 HS.out.row
      clear c0 c1 c2 c4 c5
      by_cases hlt : k < N
      · have d2 : decide ((k : Int) < (N : Int)) = true := decide_eq_true (by omega)
        have hkH : k / W < H := by rw [Nat.div_lt_iff_lt_mul (by omega), Nat.mul_comm]; have := HNN.out; omega
        have hkW : k % W < W := Nat.mod_lt _ (by omega)
        have hfit2 : k / W * row + k % W / 8 < n - (a + 1) := by
          have h1 : (k / W + 1) * row ≤ H * row := Nat.mul_le_mul_right row hkH
          rw [Nat.add_mul, Nat.one_mul] at h1
          have h2 := HFIT.out
          rw [Nat.mul_comm] at h2
          omega
        have hsi := SI.kept HAA.out HS.out.gr HOF.out
        obtain ⟨b2, o2, hA2, hc0⟩ := byte_at hsi (show a + 1 + k / W * row + k % W / 8 < n by omega)
        injection hA2 with hA2
        injection hA2 with q1 q2 q3
        subst q1 q2
        rw [show o1 + (a + 1 + k / W * row + k % W / 8) = ob + (k / W * row + k % W / 8) by rw [HOB.out (by omega)]; omega] at hc0
        have hv := getD_wf HWF.out (a + 1 + k / W * row + k % W / 8)
        have hbit : Hid (bitI l (a + 1) W row k = l.getD (a + 1 + k / W * row + k % W / 8) 0 / 2 ^ (7 - k % W % 8) % 2) := rfl
        obtain ⟨xx, hxx⟩ : ∃ x : Nat, k % W = x := ⟨_, rfl⟩
        obtain ⟨yy, hyy⟩ : ∃ y : Nat, k / W = y := ⟨_, rfl⟩
        have t1 : (k : Int).tmod (W : Int) = (xx : Int) := by rw [Int.tmod_eq_emod_of_nonneg (by omega), ← hxx]; push_cast; rfl
        have t2 : (k : Int).tdiv (W : Int) = (yy : Int) := by rw [Int.tdiv_eq_ediv_of_nonneg (by omega), ← hyy]; push_cast; rfl
        have t1' : (k : Int) % (W : Int) = (xx : Int) := by rw [← hxx]; push_cast; rfl
        have t2' : (k : Int) / (W : Int) = (yy : Int) := by rw [← hyy]; push_cast; rfl
        rw [hxx, hyy] at hc0 hv hbit
        rw [hxx] at hkW hfit2
        rw [hyy] at hkH hfit2
        obtain ⟨pr, hpr⟩ : ∃ p : Nat, yy * row = p := ⟨_, rfl⟩
        have hcp : (yy : Int) * (row : Int) = (pr : Int) := by rw [← hpr]; push_cast; rfl
        have hprb : pr ≤ 65536 * 8193 := by rw [← hpr]; exact Nat.mul_le_mul (by omega) (by omega)
        rw [hpr] at hc0 hv hbit hfit2
        have wz : ((W : Int) == 0) = false := by simp; omega
        have p0 : (0 : Int) ≤ (pr : Int) + (xx : Int) / 8 := by omega
        have p1 : (pr : Int) + (xx : Int) / 8 < ((n - (a + 1) : Nat) : Int) := by omega
        generalize l.getD (a + 1 + pr + xx / 8) 0 = v at hc0 hv hbit
        have hs7 : 7 - xx % 8 ≤ 7 := by omega
        have hsh : (7 - (xx : Int) % 8).toNat = 7 - xx % 8 := by omega
        have hs0 : decide (7 - (xx : Int) % 8 < 0) = false := decide_eq_false (by omega)
        obtain ⟨y, hy⟩ : ∃ y, v / 2 ^ (7 - xx % 8) = y := ⟨_, rfl⟩
        have hyb : 0 ≤ y ∧ y < 256 := by
          rw [← hy]
          have := div_bd (a := v) (M := 255) (7 - xx % 8) (by omega) (by omega) (by omega)
          exact ⟨Int.ediv_nonneg hv.1 (Int.pow_nonneg (by omega)), by omega⟩
        have hand : bits .and .u8 y 1 = y % 2 := by
          rw [u8_and _ _ hyb.1 hyb.2 (by omega) (by omega), show (1 : Int).toNat = 1 from rfl, nat_mask1]; omega
        rw [hy] at hbit
        have hwy : wrap64 (y % 2) = y % 2 := IntWalk.wrap64_in _ (by omega)
        clear hxx hyy hsi hpr
        have HN : Hid ((List.range (k + 1)).map (bitI l (a + 1) W row) = out ++ [y % 2]) := by
          show _ = _
          rw [bits_snoc, HOUT.out, hbit.out]
        have hbase : ∀ o, w.heap.size ≤ (wr.alloc o).heap.size := fun o => by rw [World.size_alloc]; have := HS.out.gr.size; omega
        go_wp2_with (at_builtin; refine Ard.wpList_push rfl (.tmp 109) (.tmp 130) _ rfl w.heap.size 3 1 8 _ Tryd.underlying55 Ard.infoInt rfl (by omega) (.slice A1 out.length co) out.length (out.map (.int .i64)) rfl (HS.out.own.alloc _) wr.heap.size 1 1 [.int .i64 (y % 2)] 3 rfl rfl (heap_alloc_new wr _) ?c2 (by omega) ?c3 ?c4 ?c5 _ rfl ?_)
        case c2 => simp [Value.oneCell']
        case c3 => have := HOL.out; unfold maxLen; omega
        case c4 => have := HOL.out; omega
        case c5 => first | exact hbase _ | (have := HS.out.gr.size; omega)
        intro g cap w5 hown5 hg5 _ _
        have HS5 := Lib.hid (HS.out.push hrl hg5 hown5)
        clear hown5 hg5 hbase hc0 t1 t2 t1' t2' wz c3 hcp hs0 hsh hy hand hwy p0 p1
        go_wp2_with fail
        refine ⟨⟨k + 1, some ⟨g, 0, none⟩, cap, by omega, by go_num, by rw [HN.out, List.length_append]; rfl, by rw [HN.out]; exact HS5⟩, ?_⟩
        simp [intOf]; omega
      · obtain rfl : k = N := by omega
        have d2 : decide ((k : Int) < (k : Int)) = false := by simp
        have HF : Hid (rawM l ⟨kind, W, H, top, a⟩ k = some out) := by show _ = _; rw [HRM.out, if_neg HFIT.out, HOUT.out]
        go_wp2_with fail
        go_ret2
        rw [HF.out]
        exact ⟨HS.out.gr, ⟨_, HS.out.row⟩, A1, co, rfl, HS.out.own⟩
end Go.Proofs.YtbmlopklhgladaaDoor.Pnm
set_option linter.unusedVariables false
set_option linter.unusedSimpArgs false
namespace Go.Proofs.YtbmlopklhgladaaDoor.Pnm
open Go.RowKit K Ian

theorem psmp_all {rb n c N W H : Nat} {A : Option Addr} {l : List Int} {kind top : Int} {a : Nat} (w : World) (hrow : w.heap[rb]? = some (.cells (rdA A n c a kind W H top) 54 (0, 0))) (HA : SI w .u8 A n l) (hwf : ∀ x ∈ l, 0 ≤ x ∧ x < 256) (hoff : Off w rb A) (hnc : n ≤ c) (HV : Vars w) (hrb : vb ≤ rb) (ha : a ≤ n) (hk1 : 1 ≤ kind) (hW : 1 ≤ W) (hW2 : W ≤ 4096) (hH2 : H ≤ 4096) (hN : kind = 4 → N = W * H) (hN2 : N ≤ 1048576) :
    Calls Tryd.prog 23 #[.pointer (some ⟨rb, 0, none⟩), .int .i64 N] w (PSmpP w rb (RdAt rb A n c kind W H top) (smpsM l ⟨kind, W, H, top, a⟩ N)) := by
  unfold smpsM
  by_cases h4 : kind < 4
  · rw [if_pos h4]
    exact psmp_plain w hrow HA hwf hoff hnc HV hrb ha hk1 h4 hN2
  · rw [if_neg h4]
    by_cases hs : a = n ∨ ¬ spaceB (l.getD a 0) = true
    · exact psmp_none w hrow HA hwf hoff hnc (by omega) hN2 ha hs
    · have hsp : spaceB (l.getD a 0) = true := by
        cases hb : spaceB (l.getD a 0) with
        | true => rfl
        | false => exact absurd (.inr (by rw [hb]; simp)) hs
      have ha' : a < n := by
        rcases Nat.lt_or_ge a n with h1 | h1
        · exact h1
        · exact absurd (.inl (by omega)) hs
      by_cases hk : kind = 4
      · exact psmp_bits w hrow HA hwf hoff hnc (by omega) hN2 ha' hsp hk (hN hk) hW (by omega) (by omega)
      · exact psmp_vals w hrow HA hwf hoff hnc (by omega) hN2 ha' hsp hk
def SmpOpt (w w' : World) (o : Option (List Int)) (v : Value) (t : Bool) : Prop := match o with
  | none => t = false
  | some out => t = true ∧ ∃ A c, v = .slice A out.length c ∧ w'.ownsRow w.heap.size 3 1 (.slice A out.length c) out.length (out.map (.int .i64))
def SmpForm (w : World) (rb : Nat) (R : World → Prop) (o : Option (List Int)) (e : Ending) (w' : World) : Prop :=
  ∃ (v : Value) (t : Bool), e = .returned (.tuple #[v, .bool t]) ∧ w.grownBy w' (some rb) ∧ R w' ∧ SmpOpt w w' o v t
theorem PSmpP.form {w w' : World} {rb : Nat} {R : World → Prop} {o : Option (List Int)} {e : Ending} (h : PSmpP w rb R o e w') : SmpForm w rb R o e w' := by
  obtain ⟨hg, hr, hm⟩ := h
  cases o with
  | none => obtain ⟨v, rfl⟩ := hm; exact ⟨v, false, rfl, hg, hr, rfl⟩
  | some out => obtain ⟨A, c, rfl, hown⟩ := hm; exact ⟨_, true, rfl, hg, hr, rfl, A, c, rfl, hown⟩
theorem Px.drewN {wc wr : World} {W H : Int} {A1 : Option Addr} {c1 : Nat} {l : List Int} (h : Px wc wr W H A1 c1 l) (q : Nat) : Px wc (wr.drewN q) W H A1 c1 l :=
  ⟨below_drewN h.bel q, h.row, h.own.kept (grown_below (below_drewN (Below.refl wr.heap.size wr) q) none) (by cases (Value.slice A1 l.length c1).ownBlock <;> simp)⟩
theorem Px.drew {wc wr : World} {W H : Int} {A1 : Option Addr} {c1 : Nat} {l : List Int} (h : Px wc wr W H A1 c1 l) : Px wc wr.drew W H A1 c1 l :=
  ⟨h.bel.drew, h.row, h.own.kept (grown_below (Below.refl wr.heap.size wr).drew none) (by cases (Value.slice A1 l.length c1).ownBlock <;> simp)⟩
theorem pix4_take {L : List Int} {kind top : Int} {each i k : Nat} (hk : k < 3) : (pix4 L kind top each i).take (k + 1) = (pix4 L kind top each i).take k ++ [smp3 L kind top each i k] := by
  rcases (by omega : k = 0 ∨ k = 1 ∨ k = 2) with rfl | rfl | rfl <;> rfl
/-- one sample more in the image's block -/
theorem Px.push1 {wc wr w' : World} {W H v : Int} {A1 : Option Addr} {c1 g cap : Nat} {l : List Int} {o : Obj} (h : Px wc wr W H A1 c1 l) (hg : (wr.alloc o).grownBy w' (Value.slice A1 l.length c1).ownBlock) (ho : w'.ownsRow (wc.heap.size + 1) 43 1 (.slice (some ⟨g, 0, none⟩) (l.length + 1) cap) (l.length + 1) (l.map (.int .u16) ++ [.int .u16 v])) :
    Px wc (w'.setCell ⟨wc.heap.size, 2, none⟩ (.slice (some ⟨g, 0, none⟩) (l.length + 1) cap)) W H (some ⟨g, 0, none⟩) cap (l ++ [v]) := by
  have ha := h.alloc o
  have hrow := ha.row_kept hg
  have e : (l ++ [v]).length = l.length + 1 := by rw [List.length_append]; rfl
  refine ⟨?_, ?_, ?_⟩
  · exact (ha.bel.grown hg (by have := ha.bel.size; omega) (fun b e => by have := (ha.own.lt b e).1; omega)).setCell (p := ⟨wc.heap.size, 2, none⟩) (Nat.le_refl _) _
  · rw [e]
    simp [World.setCell, Array.getElem?_modify, hrow]
  · rw [e, List.map_append]
    exact ownsRow_setCell_below ho (a := ⟨wc.heap.size, 2, none⟩) (Nat.lt_succ_self _) _
set_option maxRecDepth 20000 in
set_option maxHeartbeats 8000000 in
theorem pdecode_any {A : Option Addr} {n c : Nat} {l : List Int} {most : Int} (w : World) (HA : SI w .u8 A n l) (hwf : ∀ x ∈ l, 0 ≤ x ∧ x < 256) (hnc : n ≤ c) (hA : ∀ a, A = some a → a.block < w.heap.size) (HV : Vars w) :
    Calls Tryd.prog 9 #[.slice A n c, .int .i64 most] w (DecP w (decM l most)) := by
  have hbig := HA.bigb
  have HAA := Lib.hid HA
  have HWF := Lib.hid hwf
  have HLEN := Lib.hid HA.len
  have HOA := Lib.hid hA
  have HVV := Lib.hid HV
  have hb0 : ∀ o, Below w.heap.size w (w.alloc o) := fun o => (Below.refl _ w).alloc (Nat.le_refl _) o
  clear HA hwf hA HV
  by_cases hbg : 4194304 < n
  · have HD : Hid (decM l most = ⟨11, 0, 0, []⟩) := by show _ = _; unfold decM; rw [if_pos (by have := HLEN.out; omega)]
    have d1 : decide ((4194304 : Int) < (n : Int)) = true := decide_eq_true (by omega)
    go_enter Tryd.func9, Tryd.ntmps9
    go_wp2
    refine bodyPost_ret (v := .tuple #[.agg #[.int .i64 0, .int .i64 0, .slice none 0 0], .int .i64 11]) ?_ rfl ?_
    · simp [results, Tryd.results9, go_sem]
    · rw [HD.out]; exact ⟨none, 0, rfl, World.ownsRow_nil _ _ _ _, hb0 _⟩
  · have d1 : decide ((4194304 : Int) < (n : Int)) = false := decide_eq_false (by omega)
    have HD0 : Hid (decM l most = match headM l with
      | none => ⟨9, 0, 0, []⟩
      | some h => if greatB h.w h.h most = true then ⟨11, 0, 0, []⟩
        else match smpsM l h (eachOf h.kind * (h.w.toNat * h.h.toNat)) with
          | none => ⟨9, 0, 0, []⟩
          | some L => ⟨0, h.w, h.h, pixM L h.kind h.top (eachOf h.kind) (h.w.toNat * h.h.toNat)⟩) := by
      show _ = _; unfold decM; exact if_neg (by have := HLEN.out; omega)
    go_enter Tryd.func9, Tryd.ntmps9
    go_upto_region 3 with (fail)
    have HS1 : Hid (SI (w.alloc (.cells #[.int .i64 0, .int .i64 0, .slice none 0 0] 26)) .u8 A n l) := HAA.out.alloc _
    have hrow1 : (w.alloc (.cells #[.int .i64 0, .int .i64 0, .slice none 0 0] 26)).heap[w.heap.size]? = some (.cells #[.int .i64 0, .int .i64 0, .slice none 0 0] 26 (0, 0)) := heap_alloc_new _ _
    have hb1 := hb0 (.cells #[.int .i64 0, .int .i64 0, .slice none 0 0] 26)
    have hs1 : (w.alloc (.cells #[.int .i64 0, .int .i64 0, .slice none 0 0] 26)).heap.size = w.heap.size + 1 := World.size_alloc _ _
    generalize w.alloc (.cells #[.int .i64 0, .int .i64 0, .slice none 0 0] 26) = W1 at HS1 hrow1 hb1 hs1 ⊢
    have hrb1 : (W1.alloc (.cells #[.slice A n c, .int .i64 0, .int .i64 0, .int .i64 0, .int .i64 0, .int .i64 0] 54)).heap[W1.heap.size]? = some (.cells (rdA A n c 0 0 0 0 0) 54 (0, 0)) := heap_alloc_new _ _
    have hb2 : Below W1.heap.size W1 (W1.alloc (.cells #[.slice A n c, .int .i64 0, .int .i64 0, .int .i64 0, .int .i64 0, .int .i64 0] 54)) := (Below.refl _ W1).alloc (Nat.le_refl _) _
    go_upto_region 4 with (fail)
    have hgl : w.heap.size < W1.heap.size := by omega
    have HOF1 : Hid (Off W1 W1.heap.size A) := fun a e => ⟨by have := HOA.out a e; omega, by have := HOA.out a e; omega⟩
    have hvb : vb ≤ W1.heap.size := by have := HVV.out.len; omega
    obtain ⟨rb, hrb0⟩ : ∃ rb, w.heap.size + 1 = rb := ⟨_, rfl⟩
    have hrb : W1.heap.size = rb := hs1.trans hrb0
    rw [hrb] at hrb1 hb2 HOF1 hvb hgl
    rw [hrb0]
    obtain ⟨W2, hW2⟩ : ∃ W2, W1.alloc (.cells #[.slice A n c, .int .i64 0, .int .i64 0, .int .i64 0, .int .i64 0, .int .i64 0] 54) = W2 := ⟨_, rfl⟩
    rw [hW2] at hrb1 hb2
    rw [hW2]
    have HB2 : Hid (Below w.heap.size w W2) := hb1.trans (hb2.mono (by omega))
    have HR2 : Hid (W2.heap[rb]? = some (.cells (rdA A n c 0 0 0 0 0) 54 (0, 0))) := hrb1
    have HU2 : Hid (W2.heap[w.heap.size]? = some (.cells #[.int .i64 0, .int .i64 0, .slice none 0 0] 26 (0, 0))) := (hb2.block _ hgl).trans hrow1
    have HS2 := Lib.hid (HAA.out.below HB2.out (Nat.le_refl _))
    have HV2 := Lib.hid (HVV.out.below HB2.out (Nat.le_refl _))
    have HOF2 : Hid (Off W2 rb A) := fun a e => ⟨(HOF1.out a e).1, Nat.lt_of_lt_of_le (HOF1.out a e).2 hb2.size⟩
    have hrl2 : rb < W2.heap.size := (Array.getElem?_eq_some_iff.1 HR2.out).1
    clear hW2 hrb1 hb1 hb2 hrow1 HS1 HOF1 hs1 hrb hrb0
    go_wp2_with fail
    refine (phead_any W2 HR2.out HS2.out HWF.out HOF2.out hnc HV2.out hvb).mono ?_
    rintro e w3 ⟨hg3, hres⟩
    have HG3 := Lib.hid hg3
    have HU3 : Hid (w3.heap[w.heap.size]? = some (.cells #[.int .i64 0, .int .i64 0, .slice none 0 0] 26 (0, 0))) := (hg3.block _ (by omega) (fun e => by injection e; omega)).trans HU2.out
    have HB3 : Hid (Below w.heap.size w w3) := HB2.out.grown hg3 HB2.out.size (fun k e => by injection e; omega)
    clear hg3
    cases hhd : headM l with
    | none =>
      rw [hhd] at hres
      obtain rfl := hres
      have HD : Hid (decM l most = ⟨9, 0, 0, []⟩) := by show _ = _; rw [HD0.out, hhd]
      clear hhd
      obtain ⟨⟨z0, z1, z2⟩, q0, q1, q2⟩ := cells3 HU3.out
      go_wp2_with fail
      refine bodyPost_ret (v := .tuple #[.agg #[.int .i64 0, .int .i64 0, .slice none 0 0], .int .i64 9]) ?_ rfl ?_
      · obtain ⟨⟨r0, r1, r2⟩, -⟩ := cells3 (sets3 (y0 := .int .i64 0) (y1 := .int .i64 0) (y2 := .slice none 0 0) HU3.out)
        simp [results, Tryd.results9, go_sem, r0, r1, r2]
      · rw [HD.out]; exact ⟨none, 0, rfl, World.ownsRow_nil _ _ _ _, ((HB3.out.setCell (p := ⟨w.heap.size, 0, none⟩) (Nat.le_refl _) _).setCell (p := ⟨w.heap.size, 1, none⟩) (Nat.le_refl _) _).setCell (p := ⟨w.heap.size, 2, none⟩) (Nat.le_refl _) _⟩
    | some h =>
      rw [hhd] at hres
      obtain ⟨hr3, rfl⟩ := hres
      have HR3 := Lib.hid hr3
      have hbd := headM_bd hhd
      have HD1 : Hid (decM l most = if greatB h.w h.h most = true then ⟨11, 0, 0, []⟩
          else match smpsM l h (eachOf h.kind * (h.w.toNat * h.h.toNat)) with
            | none => ⟨9, 0, 0, []⟩
            | some L => ⟨0, h.w, h.h, pixM L h.kind h.top (eachOf h.kind) (h.w.toNat * h.h.toNat)⟩) := by show _ = _; rw [HD0.out, hhd]
      clear HD0 hhd hr3
      have HS3 := Lib.hid (SI.kept HS2.out HG3.out HOF2.out)
      have HOF3 := Lib.hid (Off.kept HOF2.out HG3.out)
      have HV3 := Lib.hid (Vars.grown HV2.out HG3.out hvb)
      have hrl3 : rb < w3.heap.size := (Array.getElem?_eq_some_iff.1 HR3.out).1
      clear HS2 HOF2 HV2 HR2 HU2 HG3
      obtain ⟨kind, hw, hh, top, a⟩ := h
      simp only at hbd HR3 HD1 ⊢
      obtain ⟨k1, k2, w1, wx, h1, hx, t1, t2, ha, hkt⟩ := hbd
      obtain ⟨c0, c1, c2, c3, c4, c5⟩ := cells6 HR3.out
      have HGT := Lib.hid (fun q => great_any (most := most) (w3.drewN q) (show 0 ≤ hw by omega) wx (show 0 ≤ hh by omega) hx)
      go_wp2_with fail
      go_quiet ((go_at_call 22; exact Calls.quiet_of_same ((HGT.out _).mono fun e w' hh => ⟨hh.1, hh.2.symm⟩)))
      have HB4 : Hid (Below w.heap.size w (w3.drewN nq)) := below_drewN HB3.out nq
      have HU4 : Hid ((w3.drewN nq).heap[w.heap.size]? = some (.cells #[.int .i64 0, .int .i64 0, .slice none 0 0] 26 (0, 0))) := HU3.out
      have HR4 : Hid ((w3.drewN nq).heap[rb]? = some (.cells (rdA A n c a kind hw hh top) 54 (0, 0))) := HR3.out
      have HS4 : Hid (SI (w3.drewN nq) .u8 A n l) := Ard.si_drewN HS3.out nq
      have HOF4 : Hid (Off (w3.drewN nq) rb A) := HOF3.out
      have HV4 : Hid (Vars (w3.drewN nq)) := HV3.out.below (below_drewN (Below.refl w3.heap.size w3) nq) (Nat.le_refl _)
      have hrl4 : rb < (w3.drewN nq).heap.size := hrl3
      clear c0 c1 c2 c3 c4 c5 HGT HB3 HU3 HR3 HS3 HOF3 HV3 hrl3
      generalize w3.drewN nq = w4 at HB4 HU4 HR4 HS4 HOF4 HV4 hrl4 ⊢
      cases hgr : greatB hw hh most with
      | true =>
        have HD : Hid (decM l most = ⟨11, 0, 0, []⟩) := by show _ = _; rw [HD1.out, if_pos hgr]
        clear hgr
        obtain ⟨⟨z0, z1, z2⟩, q0, q1, q2⟩ := cells3 HU4.out
        go_wp2_with fail
        refine bodyPost_ret (v := .tuple #[.agg #[.int .i64 0, .int .i64 0, .slice none 0 0], .int .i64 11]) ?_ rfl ?_
        · obtain ⟨⟨r0, r1, r2⟩, -⟩ := cells3 (sets3 (y0 := .int .i64 0) (y1 := .int .i64 0) (y2 := .slice none 0 0) HU4.out)
          simp [results, Tryd.results9, go_sem, r0, r1, r2]
        · rw [HD.out]; exact ⟨none, 0, rfl, World.ownsRow_nil _ _ _ _, ((HB4.out.setCell (p := ⟨w.heap.size, 0, none⟩) (Nat.le_refl _) _).setCell (p := ⟨w.heap.size, 1, none⟩) (Nat.le_refl _) _).setCell (p := ⟨w.heap.size, 2, none⟩) (Nat.le_refl _) _⟩
      | false =>
        have hbg2 : hw ≤ 4096 ∧ hh ≤ 4096 ∧ hw * hh ≤ 65536 := by
          unfold greatB at hgr
          have := of_decide_eq_false hgr
          omega
        obtain ⟨W, rfl⟩ := Int.eq_ofNat_of_zero_le (show 0 ≤ hw by omega)
        obtain ⟨H, rfl⟩ := Int.eq_ofNat_of_zero_le (show 0 ≤ hh by omega)
        have HD : Hid (decM l most = match smpsM l ⟨kind, W, H, top, a⟩ (eachOf kind * (W * H)) with
            | none => ⟨9, 0, 0, []⟩
            | some L => ⟨0, W, H, pixM L kind top (eachOf kind) (W * H)⟩) := by
          show _ = _; rw [HD1.out, if_neg (by rw [hgr]; simp)]; simp only [Int.toNat_natCast]
        clear HD1 hgr
        have hWH : W * H ≤ 65536 := by have := hbg2.2.2; have e : (W : Int) * (H : Int) = ((W * H : Nat) : Int) := by push_cast; rfl
                                       omega
        obtain ⟨each, heach⟩ : ∃ x, eachOf kind = x := ⟨_, rfl⟩
        rw [heach] at HD
        have HEC : Hid ((kind = 3 ∨ kind = 6 → each = 3) ∧ (¬ (kind = 3 ∨ kind = 6) → each = 1)) := ⟨fun h => by rw [← heach]; unfold eachOf; rw [if_pos h], fun h => by rw [← heach]; unfold eachOf; rw [if_neg h]⟩
        have HEA := Lib.hid heach
        clear heach
        obtain ⟨c0, c1, c2, c3, c4, c5⟩ := cells6 HR4.out
        go_upto_if 43 with (fail)
        go_cut [7] (fun s7 wx => s7 = .int .i64 (each : Int) ∧ wx = w4)
        case first =>
          by_cases c36 : kind = 3 ∨ kind = 6
          · have d3 : (kind % 3 == 0) = true := by rcases c36 with h | h <;> simp [h]
            have HE2 := Lib.hid (HEC.out.1 c36)
            clear c36
            go_wp2
            go_meet
            exact ⟨by rw [HE2.out]; rfl, rfl⟩
          · have d3 : (kind % 3 == 0) = false := by simp; omega
            have HE2 := Lib.hid (HEC.out.2 c36)
            clear c36
            go_wp2
            go_meet
            exact ⟨by rw [HE2.out]; rfl, rfl⟩
        obtain ⟨rfl, rfl⟩ := hcut
        generalize wc = U at *
        have heb : each ≤ 3 ∧ 1 ≤ each := by
          by_cases c36 : kind = 3 ∨ kind = 6
          · rw [HEC.out.1 c36]; omega
          · rw [HEC.out.2 c36]; omega
        have he4 : Hid (kind = 4 → each = 1) := fun h4 => HEC.out.2 (by omega)
        obtain ⟨p, hp⟩ : ∃ p : Nat, each * W = p := ⟨_, rfl⟩
        obtain ⟨N, hN⟩ : ∃ N : Nat, each * (W * H) = N := ⟨_, rfl⟩
        have hpH : p * H = N := by rw [← hp, ← hN, Nat.mul_assoc]
        have hpb : p ≤ 12288 := by rw [← hp]; exact Nat.mul_le_mul heb.1 (by omega : W ≤ 4096)
        have hNb : N ≤ 196608 := by rw [← hN]; exact Nat.mul_le_mul heb.1 hWH
        have m1 : (each : Int) * (W : Int) = (p : Int) := by rw [← hp]; push_cast; rfl
        have m2 : (p : Int) * (H : Int) = (N : Int) := by rw [← hpH]; push_cast; rfl
        have m1w : IntKind.i64.wrap (p : Int) = (p : Int) := IntWalk.i64_in _ (by omega)
        have m2w : IntKind.i64.wrap (N : Int) = (N : Int) := IntWalk.i64_in _ (by omega)
        rw [hN] at HD
        have HN4 : Hid (kind = 4 → N = W * H) := fun h4 => by rw [← hN, he4.out h4, Nat.one_mul]
        have HNE := Lib.hid hN
        clear hN hp hpH HEC he4
        have hd5 : Below U.heap.size U U.drew := (Below.refl _ _).drew
        have HCALL : Hid (Calls Tryd.prog 23 #[.pointer (some ⟨rb, 0, none⟩), .int .i64 N] U.drew (SmpForm U.drew rb (RdAt rb A n c kind W H top) (smpsM l ⟨kind, W, H, top, a⟩ N))) := (Calls.mono (psmp_all (N := N) U.drew (show U.drew.heap[rb]? = _ from HR4.out) (HS4.out.below hd5 (Nat.le_refl _)) HWF.out (show Off U.drew rb A from HOF4.out) hnc (HV4.out.below hd5 (Nat.le_refl _)) hvb (by have := HLEN.out; omega) k1 (by omega) (by omega) (by omega) HN4.out (by omega)) fun e w' h => h.form)
        have e3' : U.drew.cell? ⟨rb, 3, none⟩ = some (.int .i64 (W : Int)) := c3
        have e4' : U.drew.cell? ⟨rb, 4, none⟩ = some (.int .i64 (H : Int)) := c4
        go_upto_region 11 with (fail)
        go_cut [8, 9] (fun s8 s9 wx => ∃ t : Bool, s9 = .bool t ∧ Hid (U.grownBy wx (some rb)) ∧ Hid (RdAt rb A n c kind W H top wx) ∧ Hid (SmpOpt U.drew wx (smpsM l ⟨kind, W, H, top, a⟩ N) s8 t))
        case first =>
--<smp
          go_region_with (first
            | (go_at_call 23
               refine HCALL.out.mono ?_
               rintro e w5 ⟨v5, tt, rfl, hg5, hrd5, hopt⟩
               have HRD5 := Lib.hid hrd5
               have HG5 := Lib.hid hg5
               have HRES := Lib.hid hopt
               clear hg5 hopt hrd5)
            | fail)
          all_goals (
            go_wp2_with fail
            go_meet
            exact ⟨tt, rfl, grown_trans (grown_below hd5 _) HG5.out, HRD5, HRES⟩)
--smp>
        case rest =>
          obtain ⟨t, rfl, HGC, HRDC, HOPT⟩ := hcut
          have HBC : Hid (Below w.heap.size w wc) := HB4.out.grown HGC.out HB4.out.size (fun k e => by injection e; omega)
          have HUC : Hid (wc.heap[w.heap.size]? = some (.cells #[.int .i64 0, .int .i64 0, .slice none 0 0] 26 (0, 0))) := (HGC.out.block _ (by omega) (fun e => by injection e; omega)).trans HU4.out
          cases hsm : smpsM l ⟨kind, W, H, top, a⟩ N with
          | none =>
            have ho := HOPT.out
            rw [hsm] at ho
            obtain rfl : t = false := ho
            have HDN : Hid (decM l most = ⟨9, 0, 0, []⟩) := by show _ = _; rw [HD.out, hsm]
            clear HOPT hsm
            obtain ⟨⟨z0, z1, z2⟩, q0, q1, q2⟩ := cells3 HUC.out
            go_wp2_with fail
            refine bodyPost_ret (v := .tuple #[.agg #[.int .i64 0, .int .i64 0, .slice none 0 0], .int .i64 9]) ?_ rfl ?_
            · obtain ⟨⟨r0, r1, r2⟩, -⟩ := cells3 (sets3 (y0 := .int .i64 0) (y1 := .int .i64 0) (y2 := .slice none 0 0) HUC.out)
              simp [results, Tryd.results9, go_sem, r0, r1, r2]
            · rw [HDN.out]; exact ⟨none, 0, rfl, World.ownsRow_nil _ _ _ _, ((HBC.out.setCell (p := ⟨w.heap.size, 0, none⟩) (Nat.le_refl _) _).setCell (p := ⟨w.heap.size, 1, none⟩) (Nat.le_refl _) _).setCell (p := ⟨w.heap.size, 2, none⟩) (Nat.le_refl _) _⟩
          | some L =>
            have ho := HOPT.out
            rw [hsm] at ho
            obtain ⟨rfl, A3, c3', rfl, hown⟩ : t = true ∧ ∃ A c, u8 = .slice A L.length c ∧ wc.ownsRow U.drew.heap.size 3 1 (.slice A L.length c) L.length (L.map (.int .i64)) := ho
            have HDS : Hid (decM l most = ⟨0, W, H, pixM L kind top each (W * H)⟩) := by show _ = _; rw [HD.out, hsm]
            have HSM := Lib.hid hsm
            have HOL := Lib.hid hown
            clear HOPT hsm hown HD c0 c1 c2 c3 c4 c5 e3' e4' HCALL HS4 HOF4 HV4 HU4
            obtain ⟨a5, hr5⟩ := HRDC.out
            have HR5 := Lib.hid hr5
            obtain ⟨c0, c1, c2, c3, c4, c5⟩ := cells6 hr5
            have hrl5 : rb < wc.heap.size := (Array.getElem?_eq_some_iff.1 hr5).1
            clear hr5 HRDC
            have hLl := (smpsM_all HWF.out HSM.out).1
            have HLA := Lib.hid (smpsM_all HWF.out HSM.out).2
            have HLL := Lib.hid hLl
            clear hLl
            go_wp2_with fail
            generalize wc = V at *
            have HP0 := Lib.hid (Px.start V (W : Int) (H : Int)).drew
            go_upto_region 14 with (fail)
            go_cut [10] (fun s10 wx => s10 = .pointer (some ⟨V.heap.size, 0, none⟩) ∧ Hid (Px V wx (W : Int) (H : Int) none 0 []))
            case first =>
--<img
              go_region
              all_goals (
                go_wp2_with fail
                go_meet
                exact ⟨rfl, HP0⟩)
--img>
            obtain ⟨rfl, HP⟩ := hcut
            have HPQ : Hid (∀ q, Px V (wc.drewN q) (W : Int) (H : Int) none 0 []) := fun q => HP.out.drewN q
            have HVC : Hid (Below V.heap.size V wc) := HP.out.bel
            have HRV : Hid (wc.heap[rb]? = some (.cells (rdA A n c a5 kind W H top) 54 (0, 0))) := (HP.out.bel.block rb hrl5).trans HR5.out
            clear c0 c1 c2 c3 c4 c5 HP0
            obtain ⟨c0, c1, c2, c3, c4, c5⟩ := cells6 HRV.out
            obtain ⟨T, hT⟩ : ∃ T : Nat, W * H = T := ⟨_, rfl⟩
            have ePQ : (W : Int) * (H : Int) = (T : Int) := by rw [← hT]; push_cast; rfl
            rw [hT] at hWH
            have ePw : IntKind.i64.wrap (T : Int) = (T : Int) := IntWalk.i64_in _ (by omega)
            have HTT := Lib.hid hT
            clear hT
            go_wp2_with fail
            go_quiet (fail)
            have HP1 := Lib.hid (HPQ.out nq)
            go_wp2_with fail
            generalize wc.drewN nq = V1 at HP1 ⊢
            clear c0 c1 c2 c3 c4 c5 HPQ HP HVC HRV ePw
            have HSL0 : Hid (SI V .i64 A3 L.length L) := SI.of_own HOL.out (by show _ * 8 ≤ _; have := HLL.out; omega)
            have hT1 : 1 ≤ T := by have := HTT.out; have h1 : 1 ≤ W * H := Nat.mul_pos (by omega) (by omega); omega
            have HNT : Hid (N = each * T) := by show _ = _; rw [← HNE.out, HTT.out]
            have hLpos : 0 < L.length := by rw [HLL.out, HNT.out]; exact Nat.mul_pos (by omega) (by omega)
            obtain ⟨b3, o3, rfl, -⟩ := int_at HSL0.out hLpos
            have ez : ((each : Int) == 0) = false := by simp; omega
            clear hLpos
            go_loopw [81] (fun si wr => ∃ (i : Nat) (A1 : Option Addr) (c1 : Nat), i ≤ T ∧ si = .int .i64 i ∧ Hid (Px V wr (W : Int) (H : Int) A1 c1 (pixM L kind top each i))) (fun si _ => T - (intOf si).toNat)
            case atStart => exact ⟨0, none, 0, by omega, rfl, HP1⟩
            case round =>
              clear HP1
              obtain ⟨i, A1, c1, hi, rfl, HPX⟩ := hrel
              by_cases hlt : i < T
              · have d2 : decide ((i : Int) < (T : Int)) = true := decide_eq_true (by omega)
                obtain ⟨P, hP⟩ : ∃ P : Nat, each * i = P := ⟨_, rfl⟩
                have ePi : (each : Int) * (i : Int) = (P : Int) := by rw [← hP]; push_cast; rfl
                have hPN : P + each ≤ N := by
                  rw [HNT.out, ← hP]
                  have := Nat.mul_le_mul_left each hlt
                  rw [Nat.mul_succ] at this; exact this
                have HPP := Lib.hid hP
                clear hP
                have HPL := Lib.hid (pixM_len L kind top each i)
                go_wp2_with fail
                go_loopw [84] (fun sk wx => ∃ (k : Nat) (A2 : Option Addr) (c2 : Nat), k ≤ 3 ∧ sk = .int .i64 k ∧ Hid (Px V wx (W : Int) (H : Int) A2 c2 (pixM L kind top each i ++ (pix4 L kind top each i).take k))) (fun sk _ => 3 - (intOf sk).toNat)
                case atStart => exact ⟨0, A1, c1, by omega, rfl, by rw [List.take_zero, List.append_nil]; exact HPX⟩
                case round =>
                  clear HPX
                  obtain ⟨k, A2, c2, hk, rfl, HPX⟩ := hrel
                  have HLK : Hid ((pixM L kind top each i ++ (pix4 L kind top each i).take k).length = 4 * i + k) := by
                    show _ = _; rw [List.length_append, HPL.out, List.length_take]; unfold pix4; simp; omega
                  obtain ⟨px, hpx⟩ : ∃ p, pixM L kind top each i ++ (pix4 L kind top each i).take k = p := ⟨_, rfl⟩
                  rw [hpx] at HPX HLK
                  have HPE := Lib.hid hpx
                  clear hpx
                  obtain ⟨⟨m0, mm1, mm2⟩, n0, n1, n2⟩ := cells3 HPX.out.row
                  by_cases hk3 : k < 3
                  · have d3 : decide ((k : Int) < 3) = true := decide_eq_true (by omega)
                    have HRX : Hid (wr.heap[rb]? = some (.cells (rdA A n c a5 kind W H top) 54 (0, 0))) := (HPX.out.bel.block rb hrl5).trans HR5.out
                    obtain ⟨c0, c1', c2', c3, c4, c5⟩ := cells6 HRX.out
                    obtain ⟨r, hr⟩ : ∃ r : Nat, k % each = r := ⟨_, rfl⟩
                    have t5 : (k : Int).tmod (each : Int) = (r : Int) := by rw [Int.tmod_eq_emod_of_nonneg (by omega), ← hr]; push_cast; rfl
                    have t6 : (k : Int) % (each : Int) = (r : Int) := by rw [← hr]; push_cast; rfl
                    have hre : r < each := by rw [← hr]; exact Nat.mod_lt _ (by omega)
                    have hq : P + r < L.length := by rw [HLL.out]; omega
                    obtain ⟨b4, o4, hA4, hc⟩ := int_at (HSL0.out.below HPX.out.bel (Nat.le_refl _)) hq
                    injection hA4 with hA4
                    injection hA4 with q1 q2 q3
                    subst q1 q2
                    have hxb : 0 ≤ L.getD (P + r) 0 ∧ L.getD (P + r) 0 ≤ 999999999 := by
                      rw [List.getD_eq_getElem?_getD, List.getElem?_eq_getElem hq]
                      exact HLA.out _ (List.getElem_mem hq)
                    have HSM3 : Hid (smp3 L kind top each i k = upI (if kind = 1 ∨ kind = 4 then 1 - L.getD (P + r) 0 else L.getD (P + r) 0) top) := by show _ = _; unfold smp3; rw [hr, HPP.out]
                    have HTK : Hid (pixM L kind top each i ++ (pix4 L kind top each i).take (k + 1) = px ++ [smp3 L kind top each i k]) := by show _ = _; rw [pix4_take hk3, ← List.append_assoc, HPE.out]
                    generalize smp3 L kind top each i k = sv at HTK HSM3
                    generalize L.getD (P + r) 0 = x at hc hxb HSM3
                    have i3 : (0 : Int) ≤ (P : Int) + (r : Int) := by omega
                    have i4 : (P : Int) + (r : Int) < (L.length : Int) := by omega
                    clear hq hr
                    have hbase : ∀ o, V.heap.size + 1 ≤ (wr.alloc o).heap.size := fun o => by rw [World.size_alloc]; have := HPX.out.lt; omega
                    by_cases hk14 : kind = 1 ∨ kind = 4
                    · have d4 : (kind % 3 == 1) = true := by rcases hk14 with h | h <;> simp [h]
                      have HV : Hid (sv = upI (1 - x) top) := by show _ = _; rw [HSM3.out, if_pos hk14]
                      clear hk14 HSM3
                      go_wp2_with fail
                      refine (up_any (v := 1 - x) _ t1 t2 (by omega) (by omega)).mono ?_
                      rintro e w' ⟨⟨er, rfl⟩, rfl⟩
                      rw [← HV.out]
                      clear hc
                      
                      go_wp2_with (at_builtin; refine Ard.wpList_push rfl (.tmp 115) (.tmp 117) _ rfl (V.heap.size + 1) 43 1 2 _ Tryd.underlying24 Ard.infoU16 rfl (by omega) (.slice A2 px.length c2) px.length (px.map (.int .u16)) rfl (HPX.out.own.alloc _) wr.heap.size 1 1 [.int .u16 sv] 43 rfl rfl (heap_alloc_new wr _) ?c2 (by omega) ?c3 ?c4 ?c5 _ rfl ?_)
                      case c2 => simp [Value.oneCell']
                      case c3 => have := HLK.out; unfold maxLen; omega
                      case c4 => have := HLK.out; omega
                      case c5 => first | exact hbase _ | (have := HPX.out.lt; omega)
                      intro g cap w5 hown5 hg5 _ _
                      have HP5 := Lib.hid (HPX.out.push1 hg5 hown5)
                      have hrow5 := (HPX.out.alloc _).row_kept hg5
                      obtain ⟨⟨mz0, mz1, mz2⟩, nz0, nz1, nz2⟩ := cells3 hrow5
                      clear hown5 hg5 hbase hrow5 m0 mm1 mm2 n0 n1 n2
                      go_wp2_with fail
                      
                      refine ⟨⟨k + 1, some ⟨g, 0, none⟩, cap, by omega, by go_num, by rw [HTK.out]; exact HP5⟩, ?_⟩
                      simp [intOf]; omega
                    · have d4 : (kind % 3 == 1) = false := by simp; omega
                      have HV : Hid (sv = upI x top) := by show _ = _; rw [HSM3.out, if_neg hk14]
                      clear hk14 HSM3
                      go_wp2_with fail
                      refine (up_any (v := x) _ t1 t2 (by omega) (by omega)).mono ?_
                      rintro e w' ⟨⟨er, rfl⟩, rfl⟩
                      rw [← HV.out]
                      clear hc
                      
                      go_wp2_with (at_builtin; refine Ard.wpList_push rfl (.tmp 115) (.tmp 117) _ rfl (V.heap.size + 1) 43 1 2 _ Tryd.underlying24 Ard.infoU16 rfl (by omega) (.slice A2 px.length c2) px.length (px.map (.int .u16)) rfl (HPX.out.own.alloc _) wr.heap.size 1 1 [.int .u16 sv] 43 rfl rfl (heap_alloc_new wr _) ?c2 (by omega) ?c3 ?c4 ?c5 _ rfl ?_)
                      case c2 => simp [Value.oneCell']
                      case c3 => have := HLK.out; unfold maxLen; omega
                      case c4 => have := HLK.out; omega
                      case c5 => first | exact hbase _ | (have := HPX.out.lt; omega)
                      intro g cap w5 hown5 hg5 _ _
                      have HP5 := Lib.hid (HPX.out.push1 hg5 hown5)
                      have hrow5 := (HPX.out.alloc _).row_kept hg5
                      obtain ⟨⟨mz0, mz1, mz2⟩, nz0, nz1, nz2⟩ := cells3 hrow5
                      clear hown5 hg5 hbase hrow5 m0 mm1 mm2 n0 n1 n2
                      go_wp2_with fail
                      
                      refine ⟨⟨k + 1, some ⟨g, 0, none⟩, cap, by omega, by go_num, by rw [HTK.out]; exact HP5⟩, ?_⟩
                      simp [intOf]; omega
                  · obtain rfl : k = 3 := by omega
                    have d3 : decide ((3 : Int) < 3) = false := by decide
                    have HPN : Hid (pixM L kind top each (i + 1) = px ++ [65535]) := by
                      show _ = _
                      rw [pixM_succ, ← HPE.out, List.append_assoc]; rfl
                    have hbase : ∀ o, V.heap.size + 1 ≤ (wr.alloc o).heap.size := fun o => by rw [World.size_alloc]; have := HPX.out.lt; omega
                    go_wp2_with (at_builtin; refine Ard.wpList_push rfl (.tmp 122) (.tmp 123) _ rfl (V.heap.size + 1) 43 1 2 _ Tryd.underlying24 Ard.infoU16 rfl (by omega) (.slice A2 px.length c2) px.length (px.map (.int .u16)) rfl (HPX.out.own.alloc _) wr.heap.size 1 1 [.int .u16 65535] 43 rfl rfl (heap_alloc_new wr _) ?c2 (by omega) ?c3 ?c4 ?c5 _ rfl ?_)
                    case c2 => simp [Value.oneCell']
                    case c3 => have := HLK.out; unfold maxLen; omega
                    case c4 => have := HLK.out; omega
                    case c5 => first | exact hbase _ | (have := HPX.out.lt; omega)
                    intro g cap w5 hown5 hg5 _ _
                    have HP5 := Lib.hid (HPX.out.push1 hg5 hown5)
                    have hrow5 := (HPX.out.alloc _).row_kept hg5
                    obtain ⟨⟨mz0, mz1, mz2⟩, nz0, nz1, nz2⟩ := cells3 hrow5
                    clear hown5 hg5 hbase hrow5 m0 mm1 mm2 n0 n1 n2
                    go_wp2_with fail
                    
                    refine ⟨⟨i + 1, some ⟨g, 0, none⟩, cap, by omega, by go_num, by rw [HPN.out]; exact HP5⟩, ?_⟩
                    simp [intOf]; omega
              · obtain rfl : i = T := by omega
                have d2 : decide ((i : Int) < (i : Int)) = false := by simp
                have HRUr : Hid (wr.heap[w.heap.size]? = some (.cells #[.int .i64 0, .int .i64 0, .slice none 0 0] 26 (0, 0))) := (HPX.out.bel.block _ (by omega)).trans HUC.out
                obtain ⟨⟨z0, z1, z2⟩, q0, q1, q2⟩ := cells3 HRUr.out
                obtain ⟨⟨m0, mm1, mm2⟩, -⟩ := cells3 HPX.out.row
                have HDT : Hid (decM l most = ⟨0, W, H, pixM L kind top each i⟩) := by show _ = _; rw [HDS.out, HTT.out]
                have hne : w.heap.size ≠ V.heap.size := by omega
                go_wp2_with fail
                refine bodyPost_ret (v := .tuple #[.agg #[.int .i64 (W : Int), .int .i64 (H : Int), .slice A1 (pixM L kind top each i).length c1], .int .i64 0]) ?_ rfl ?_
                · obtain ⟨⟨r0, r1, r2⟩, -⟩ := cells3 (sets3 (y0 := .int .i64 (W : Int)) (y1 := .int .i64 (H : Int)) (y2 := .slice A1 (pixM L kind top each i).length c1) HRUr.out)
                  simp [results, Tryd.results9, go_sem, r0, r1, r2]
                · rw [HDT.out]
                  have hlo : w.heap.size < V.heap.size + 1 := by omega
                  refine ⟨A1, c1, rfl, ?_, ((HBC.out.trans (HPX.out.bel.mono (by omega))).setCell (p := ⟨w.heap.size, 0, none⟩) (Nat.le_refl _) _ |>.setCell (p := ⟨w.heap.size, 1, none⟩) (Nat.le_refl _) _).setCell (p := ⟨w.heap.size, 2, none⟩) (Nat.le_refl _) _⟩
                  exact own_mono (ownsRow_setCell_below (ownsRow_setCell_below (ownsRow_setCell_below HPX.out.own (a := ⟨w.heap.size, 0, none⟩) hlo _) (a := ⟨w.heap.size, 1, none⟩) hlo _) (a := ⟨w.heap.size, 2, none⟩) hlo _) (Nat.le_of_lt hlo)
end Go.Proofs.YtbmlopklhgladaaDoor.Pnm
