/-
  Texts of this claim, joined by program (WrtC, ShS, Vas, Fit, Lst). Walks: the program's Write. (Printed by gen_write.py.)
-/
import Derived.Test.YtoofgblmpjndjaaGreatDoorZG19
import Derived.Test.YtoofgblmpjndjaaGreatDoorZG9
import Derived.Test.YtoofgblmpjndjaaGreatDoorZG10
import Derived.Test.YtoofgblmpjndjaaGreatDoorRows
import Derived.Test.YtoofgblmpjndjaaGreatDoorZG1
import Derived.WalkKit
import Derived.ProofKit
import Derived.Lib.SmallJoins
import Derived.OpenShut
import Derived.SliceStrings
import Derived.Deep.Slices
import Derived.SizedLaws
import Derived.Lib.LaidU8T
import Derived.PinnedBridge
import Derived.MakeChecks
import Derived.Shelf.Vars
import Derived.Handed
import Derived.Lay
import Derived.Stop.Joined
import Derived.LaidLaws
import Derived.Deep.DeepHandedRow
set_option linter.unusedVariables false
set_option linter.unusedSimpArgs false
namespace Go.Proofs.YtoofgblmpjndjaaGreatDoor.Scr
open Go.RowKit K Go.Lib Go.Shelf

theorem unknownW_any {w : World} {B M n : Nat} {p : Tx → Bool} {t : Tx} (hk : KM w B n p) (hM : w.cell? ⟨M, 0, none⟩ = some (.map (some B))) (ht : t.length ≤ maxLen) :
  Calls Tryz.prog 31 #[.string (ba t), .pointer (some ⟨M, 0, none⟩)] w fun e w' => e = .returned (.bool (!p t)) ∧ w' = w := by
 have hl := hk.look ht
 obtain ⟨z, hz⟩ : ∃ z, ba t = z := ⟨_, rfl⟩
 obtain ⟨b, hb⟩ : ∃ b, p t = b := ⟨_, rfl⟩
 rw [hz, hb] at hl
 rw [hz, hb]
 clear hz hb hk ht
 go_enter Tryz.func31, Tryz.ntmps31
 go_wp2
 go_ret
 exact ⟨rfl, rfl⟩
theorem knownW_any {w : World} {B M n : Nat} {p : Tx → Bool} (hk : KM w B n p) (hM : w.cell? ⟨M, 0, none⟩ = some (.map (some B))) (hMl : M < w.heap.size) : PredAt Tryz.prog 31 #[.pointer (some ⟨M, 0, none⟩)] (fun x : Short => vS x.1) (fun x => !p x.1) w := fun W x hb =>
 (unknownW_any (hk.below hb hk.lt) ((hb.cell (p := ⟨M, 0, none⟩) hMl).trans hM) x.2).mono fun e w' ⟨he, hw⟩ => ⟨he, 0, hw⟩
theorem stepM_args {l : List Tx} {s : St} (h : stepM l = some s) : s.args.length ≤ l.length + 1 := by
 unfold stepM at h
 simp only at h
 split at h
 ·split at h
  ·injection h with h; subst h; exact Nat.zero_le _
  ·cases h
 ·split at h
  ·split at h
   ·split at h
    ·cases h
    ·rename_i hnum
     split at h
     ·injection h with h; subst h
      have := numsM_len hnum
      rw [List.length_drop] at this
      show (_ :: _ : List Int).length ≤ _
      rw [List.length_cons]
      omega
     ·cases h
   ·cases h
  ·split at h
   ·split at h
    ·split at h
     ·cases h
     ·rename_i hnum
      split at h
      ·injection h with h; subst h
       have := numsM_len hnum
       rw [List.length_drop] at this
       dsimp only
       omega
      ·cases h
    ·cases h
   ·split at h
    ·split at h
     ·cases h
     ·rename_i hnum
      split at h
      ·injection h with h; subst h
       have := numsM_len hnum
       rw [List.length_drop] at this
       dsimp only
       omega
      ·cases h
    ·cases h
theorem containsW_sl {w : World} {B M cnt ns c : Nat} {A : Option Addr} {p : Tx → Bool} {srcs : List Tx} (hk : KM w B cnt p) (hM : w.cell? ⟨M, 0, none⟩ = some (.map (some B))) (ho : SS w A ns srcs) (hs : ∀ t ∈ srcs, t.length ≤ maxLen) :
  Calls Tryz.prog 24 #[.slice A ns c, .func (.func 31) #[] #[.pointer (some ⟨M, 0, none⟩)]] w fun e w' => e = .returned (.bool (!srcs.all p)) ∧ Below w.heap.size w w' := by
 have hMl : M < w.heap.size := World.block_lt_of_cell? _ _ hM
 have hl := ho.len
 have hsz := ho.sz
 by_cases h0 : ns = 0
 ·subst h0
  have : srcs = [] := List.eq_nil_of_length_eq_zero hl
  subst this
  refine (Scs.slices_ContainsFunc_empty (α := Short) A c _ w).mono ?_
  rintro e w' ⟨rfl, rfl⟩
  exact ⟨rfl, Below.refl _ _⟩
 ·obtain ⟨g, off, -, rfl, -, -, -⟩ := ho.cell (i := 0) (by omega)
  have hlen := shorts_len srcs hs
  refine (Scs.slices_ContainsFunc (fun x : Short => vS x.1) (fun x => !p x.1) 31 #[.pointer (some ⟨M, 0, none⟩)] (enters_of Tryz.func31 (by kernel_rfl) rfl) g off ns c (shorts srcs hs) w (knownW_any hk hM hMl) (by omega) (by omega) (fun j hj => ?_)).mono ?_
  ·have hj2 : j < srcs.length := by omega
   obtain ⟨g', off', t, e, hc, ht, -⟩ := ho.cell (i := j) (by omega)
   injection e with e
   injection e with ea eb
   subst ea eb
   have h3 : ((shorts srcs hs)[j]!).1 = t := by
    rw [getElem!_pos (shorts srcs hs) j hj]
    have h4 : ((shorts srcs hs).map (·.1))[j]? = srcs[j]? := by rw [shorts_map]
    rw [List.getElem?_map, List.getElem?_eq_getElem hj, ht] at h4
    exact Option.some.inj h4
   rw [h3]
   exact hc
  ·rintro e w' ⟨rfl, q, rfl⟩
   refine ⟨?_, below_drewNg w q⟩
   rw [List.take_of_length_le (by omega)]
   have h5 : (shorts srcs hs).any (fun x => !p x.1) = srcs.any (fun x => !p x) := by
    conv => rhs; rw [← shorts_map srcs hs]
    rw [List.any_map]
    rfl
   rw [h5, any_not]
theorem join_any {WS : List Tx} {A : Option Addr} {wn c base : Nat} (V : World) (ho : V.ownsRow base 9 1 (.slice A wn c) wn (WS.map vS)) (hne : WS ≠ []) (hs : ∀ u ∈ WS, u.length ≤ 21) (hn : wn ≤ 68719476739) :
  Calls Tryz.prog 33 #[.slice A wn c, .string ⟨#[32]⟩] V fun e w' => e = .returned (.string (ba (joinM WS))) ∧ Below V.heap.size V w' := by
 have hl : WS.length = wn := by have := ho.1; simpa using this
 rcases ho.2 with ⟨e, rfl⟩ | ⟨g, cap, cur, e, -, hg, hcap, -⟩
 ·exact absurd (List.eq_nil_of_length_eq_zero hl) hne
 ·injection e with e1 e2 e3
  subst e1 e3
  have hm : (WS.map ba).map (·.data.toList) = WS := by rw [List.map_map]; exact List.map_id _
  have hj := join_small WS 21 hs
  have := Scs.strings_Join g 0 c (WS.map ba) ⟨#[32]⟩ V (fun j x hx => by
   rw [List.getElem?_map] at hx
   obtain ⟨t, ht, rfl⟩ := Option.map_eq_some_iff.1 hx
   have h2 := ho.cells (g := g) rfl j (vS t) (by rw [List.getElem?_map, ht]; rfl)
   rw [Addr.add_lit] at h2
   exact h2) (Array.getElem?_eq_some_iff.1 hg).1 (by rw [List.length_map]; omega) (by rw [List.length_map]; omega) (by rw [hm]; show (Lib.join WS [32]).length ≤ _; rw [join_joinM]; omega)
  rw [List.length_map, hl, hm] at this
  refine this.mono ?_
  rintro e w' ⟨rfl, hb⟩
  refine ⟨?_, hb⟩
  show _ = Ending.returned (.string (ba (joinM WS)))
  rw [← join_joinM]
  rfl
def wrR : Option Tx → Tx × Int
 | none => ([], 7)
 | some t => if 8192 < t.length then ([], 3) else (t, 0)
theorem writeM_wrR (l : List St) : writeM l = if 64 < l.length then ([], 7) else wrR (writeP l [] []) := by
 unfold writeM wrR
 split
 ·rfl
 ·cases writeP l [] [] <;> rfl
def WriteP (w : World) (r : Tx × Int) (e : Ending) (w' : World) : Prop := e = .returned (.tuple #[.string (ba r.1), .int .i64 r.2]) ∧ Below w.heap.size w w'
def FitS (s : St) : Prop := s.srcs.length + s.args.length ≤ 68719476736 ∧ s.op.length ≤ maxLen ∧ ∀ a ∈ s.args, -9223372036854775808 ≤ a ∧ a ≤ 9223372036854775807
theorem own_cap {w : World} {base : Nat} {e : TypeId} {size n c : Nat} {A : Option Addr} {xs : List Value} (h : w.ownsRow base e size (.slice A n c) n xs) : n ≤ c := by
 obtain ⟨_, _, e, hc⟩ := own_shape h
 injection e with _ _ e
 subst e
 exact hc
set_option maxRecDepth 20000 in
set_option maxHeartbeats 16000000 in
theorem write_any {A : Option Addr} {n c : Nat} {l : List (Int × St)} (w : World) (H : TS w A n l) (HV : Vars w) (hF : ∀ p ∈ l, FitS p.2) : Calls Tryz.prog 12 #[.slice A n c] w (WriteP w (writeM (l.map (·.2)))) := by
 have hmf : ∀ (fn : Fn) (first cap : Array Value) (w : World), (Instr.makeFunc fn first cap).run Tryz.prog w = .ok (.func fn first cap) w := fun _ _ _ _ => rfl
 have hmk : ∀ (t : TypeId) (w : World), (Instr.makeMap t none).run Tryz.prog w = .ok (.map (some w.heap.size)) (w.alloc (.map #[] 0)) := fun _ _ => rfl
 obtain ⟨res, hres⟩ : ∃ r, writeM (l.map (·.2)) = r := ⟨_, rfl⟩
 rw [hres]
 obtain ⟨ll, hll⟩ : ∃ x, l.map (·.2) = x := ⟨_, rfl⟩
 rw [hll, writeM_wrR] at hres
 have hlln : ll.length = n := by rw [← hll, List.length_map, H.len]
 rw [hlln] at hres
 have HBIG : Hid (64 < n → res = ([], 7)) := fun h => by rw [← hres, if_pos h]
 have HREM : Hid (n ≤ 64 → wrR (writeP (ll.drop 0) [] []) = res) := fun h => by rw [← hres, if_neg (by omega)]; rfl
 have HT := Lib.hid H
 have HLN := Lib.hid H.len
 have HSZ : Hid (n ≤ 1099511627776) := H.sz
 have HLL := Lib.hid hll
 have HLLN := Lib.hid hlln
 have HVV := Lib.hid HV
 have HFF := Lib.hid hF
 obtain ⟨W1, hW1, HQ1⟩ : ∃ W1, ((((w.alloc (.cells #[.pointer none, .slice none 0 0] 60)).alloc (.map #[] 0)).alloc (.cells #[.map none] 46)).setCell ⟨w.heap.size + 2, 0, none⟩ (.map (some (w.heap.size + 1)))) = W1 ∧ Hid (WQ w W1 [] [] 0) := by
  have hn : (((w.alloc (.cells #[.pointer none, .slice none 0 0] 60)).alloc (.map #[] 0)).alloc (.cells #[.map none] 46)).heap[w.heap.size + 2]? = some (.cells #[.map none] 46 (0, 0)) := by
   have := heap_alloc_new ((w.alloc (.cells #[.pointer none, .slice none 0 0] 60)).alloc (.map #[] 0)) (.cells #[.map none] 46)
   rwa [World.size_alloc, World.size_alloc] at this
  have hm : (((w.alloc (.cells #[.pointer none, .slice none 0 0] 60)).alloc (.map #[] 0)).alloc (.cells #[.map none] 46)).heap[w.heap.size + 1]? = some (.map #[] 0) := by
   refine (Below.heap_alloc _ _ _ (by simp)).trans ?_
   have := heap_alloc_new (w.alloc (.cells #[.pointer none, .slice none 0 0] 60)) (.map #[] 0)
   rwa [World.size_alloc] at this
  have hb : (((w.alloc (.cells #[.pointer none, .slice none 0 0] 60)).alloc (.map #[] 0)).alloc (.cells #[.map none] 46)).heap[w.heap.size]? = some (.cells #[.pointer none, .slice none 0 0] 60 (0, 0)) :=
   (Below.heap_alloc _ _ _ (by simp; omega)).trans ((Below.heap_alloc _ _ _ (by simp)).trans (heap_alloc_new w _))
  refine ⟨_, rfl, ⟨.inl ⟨Nat.le_refl _, .slice none 0 0, (heap_setCell_other _ ⟨w.heap.size + 2, 0, none⟩ w.heap.size _ (by show w.heap.size ≠ w.heap.size + 2; omega)).trans hb, World.ownsRowF_nil _ _ _ _, by simp [Value.ownBlock]⟩, ?_, heap_setCell_same _ (w.heap.size + 2) 0 _ _ _ hn, ((((Below.refl _ w).alloc (Nat.le_refl _) _).alloc (by simp) _).alloc (by simp; omega) _).setCell (p := ⟨w.heap.size + 2, 0, none⟩) (by show w.heap.size ≤ w.heap.size + 2; omega) _⟩⟩
  have hk := KM.made (w.alloc (.cells #[.pointer none, .slice none 0 0] 60))
  rw [World.size_alloc] at hk
  refine hk.same ((heap_setCell_other _ ⟨w.heap.size + 2, 0, none⟩ (w.heap.size + 1) _ (by show w.heap.size + 1 ≠ w.heap.size + 2; omega)).trans (hm.trans ?_))
  have := heap_alloc_new (w.alloc (.cells #[.pointer none, .slice none 0 0] 60)) (.map #[] 0)
  rw [World.size_alloc] at this
  exact this.symm
 have c1 : (((w.alloc (.cells #[.pointer none, .slice none 0 0] 60)).alloc (.map #[] 0)).alloc (.cells #[.map none] 46)).cell? ⟨w.heap.size + 2, 0, none⟩ = some (.map none) := by
  have := heap_alloc_new ((w.alloc (.cells #[.pointer none, .slice none 0 0] 60)).alloc (.map #[] 0)) (.cells #[.map none] 46)
  rw [World.size_alloc, World.size_alloc] at this
  exact Ard.row_cell this 0
 have c2 : (((w.alloc (.cells #[.pointer none, .slice none 0 0] 60)).alloc (.map #[] 0)).alloc (.cells #[.map none] 46)).frozen? ⟨w.heap.size + 2, 0, none⟩ = false := by
  have := heap_alloc_new ((w.alloc (.cells #[.pointer none, .slice none 0 0] 60)).alloc (.map #[] 0)) (.cells #[.map none] 46)
  rw [World.size_alloc, World.size_alloc] at this
  exact Ard.row_frozen this 0
 clear H HV hF hres hll hlln
 go_enter Tryz.func12, Tryz.ntmps12
 go_wp2_with fail
 go_loopw [14] (fun s14 wx => ∃ (i : Nat) (bs : Tx) (known : List Tx), i ≤ n ∧ s14 = .int .i64 (i : Int) ∧ Hid (WQ w wx bs known i) ∧ Hid (i = 0 ∨ n ≤ 64) ∧ Hid (n ≤ 64 → wrR (writeP (ll.drop i) bs known) = res) ∧ Hid (bs.length ≤ i * 1600000000000)) (fun s14 _ => n - (intOf s14).toNat)
 case atStart => exact ⟨0, [], [], Nat.zero_le _, rfl, HQ1, .inl rfl, HREM, Nat.zero_le _⟩
 case round =>
  obtain ⟨i, bs, known, hi, rfl, HQ, HI, HR, HBS⟩ := hrel
  by_cases hlt : i < n
  ·have HLT := Lib.hid hlt
   obtain ⟨p, hp⟩ : ∃ p, l[i]? = some p := ⟨l[i]'(by rw [HLN.out]; exact hlt), List.getElem?_eq_getElem _⟩
   obtain ⟨b, o, rfl, hst, hbl⟩ := (HT.out.below HQ.out.bel).at' i p hp
   obtain ⟨As, ns, cs, Aa, na, ca, h0, h1, h2, h3, h4, h5, hss, hsi⟩ := hst
   have hfit := HFF.out p (List.mem_of_getElem? hp)
   have HFIT := Lib.hid hfit
   have hpl : ll[i]? = some p.2 := by rw [← HLL.out, List.getElem?_map, hp]; rfl
   have HDR : Hid (ll.drop i = p.2 :: ll.drop (i + 1)) := by
    show _ = _
    obtain ⟨hh, ee⟩ := List.getElem?_eq_some_iff.1 hpl
    rw [List.drop_eq_getElem_cons hh, ee]
   have hns : p.2.srcs.length = ns := hss.len
   have hna : p.2.args.length = na := hsi.len
   have d2 : decide ((i : Int) < (n : Int)) = true := decide_eq_true (by omega)
   have e2 : decide (i < n) = true := decide_eq_true hlt
   have l0 : (i : Int) < n := by omega
   have z0 : (0 : Int) ≤ i := by omega
   have HU : Hid (wrap64 ((i : Int) + 1) = ((i + 1 : Nat) : Int)) := by show _ = _; have := HSZ.out; rw [IntWalk.wrap64_in _ (by omega)]; rfl
   have HSPL : Hid (∀ V, Below wr.heap.size wr V → Calls Tryz.prog 29 #[.agg #[.int .i64 p.1, .string (ba p.2.op), .string (ba p.2.dst), .slice As ns cs, .string (ba p.2.file), .slice Aa na ca]] V (SpellP V p.2)) := fun V hV => spell_any V (hss.below hV) (hsi.below hV (Nat.le_refl _)) (by have := hfit.1; omega) hfit.2.2 ((HVV.out.below HQ.out.bel (Nat.le_refl _)).below hV (Nat.le_refl _))
   have HWN' : (spellW p.2).length ≤ ns + na + 3 := by have := spellW_len p.2; omega
   obtain ⟨wn, hwn⟩ : ∃ k, (spellW p.2).length = k := ⟨_, rfl⟩
   have HWN := Lib.hid hwn
   have HWNB : Hid (wn ≤ 68719476739) := by show _ ≤ _; have := hfit.1; omega
   have hw1 : 1 ≤ wn := by rw [← hwn]; exact List.length_pos_iff.2 (spell_ne _)
   have HW1 := Lib.hid hw1
   have HSTEP : Hid (∀ V A c, SS V A wn (spellW p.2) → wn ≤ c → Calls Tryz.prog 23 #[.slice A wn c] V (StepP V (stepM (spellW p.2)))) := fun V A c hs hc => step_any V hs hw1 hc hfit.2.1
   have HSAME0 : Hid (∀ (s2 : St) V, Below wr.heap.size wr V → ∀ (B2 A2 : Option Addr) (b1 b2 ns2 cs2 na2 ca2 : Nat), V.ownsRow b1 9 1 (.slice B2 ns2 cs2) ns2 (s2.srcs.map vS) → V.ownsRow b2 3 1 (.slice A2 na2 ca2) na2 (s2.args.map (.int .i64)) → ns2 ≤ 8796093022000 → na2 * 8 ≤ 140737488351232 → Calls Tryz.prog 30 #[.agg #[.int .i64 p.1, .string (ba p.2.op), .string (ba p.2.dst), .slice As ns cs, .string (ba p.2.file), .slice Aa na ca], .agg #[.int .i64 0, .string (ba s2.op), .string (ba s2.dst), .slice B2 ns2 cs2, .string (ba s2.file), .slice A2 na2 ca2]] V (fun e w' => ∃ r : Bool, e = .returned (.bool r) ∧ (r = true ↔ p.2 = s2) ∧ Below V.heap.size V w')) := fun s2 V hV B2 A2 b1 b2 ns2 cs2 na2 ca2 g1 g2 g3 g4 => same_any V (hss.below hV) (hsi.below hV (Nat.le_refl _)) (SS.of_own g1 g3) (SI.of_own g2 g4)
   have HSSW := Lib.hid hss
   obtain ⟨zo, hzo⟩ : ∃ z, ba p.2.op = z := ⟨_, rfl⟩
   obtain ⟨zd, hzd⟩ : ∃ z, ba p.2.dst = z := ⟨_, rfl⟩
   obtain ⟨zf, hzf⟩ : ∃ z, ba p.2.file = z := ⟨_, rfl⟩
   rw [hzo, hzd, hzf] at HSPL HSAME0
   rw [hzo] at h1
   rw [hzd] at h2
   rw [hzf] at h4
   have HZD := Lib.hid hzd
   obtain ⟨WA, hWA⟩ : ∃ x, wr.alloc (.cells #[.int .i64 0, .string ⟨#[]⟩, .string ⟨#[]⟩, .slice none 0 0, .string ⟨#[]⟩, .slice none 0 0] 37) = x := ⟨_, rfl⟩
   have HXA : Hid (WA.heap[wr.heap.size]? = some (.cells st0 37 (0, 0))) := by rw [← hWA]; exact heap_alloc_new wr _
   have HBA : Hid (Below wr.heap.size wr WA) := by rw [← hWA]; exact (Below.refl _ _).alloc (Nat.le_refl _) _
   clear hp hfit hpl hns hna hss hsi hwn hzo hzd hzf hbl hi hlt HWN'
   have HREM2 : Hid (n ≤ 64 → wrR (if stopS p.2 = false ∧ stepM (spellW p.2) = some p.2 ∧ p.2.srcs.all known.contains = true then writeP (ll.drop (i + 1)) (bs ++ (joinM (spellW p.2) ++ [10])) (p.2.dst :: known) else none) = res) := fun h => by rw [← HR.out h, HDR.out, writeP_cons]
   cases hstop : stopS p.2 with
   | true =>
    have HSTP := Lib.hid hstop
    have HE : Hid (res = ([], 7)) := by
     show _ = _
     by_cases h64 : n ≤ 64
     ·rw [← HREM2.out h64, if_neg (fun h => by rw [h.1] at hstop; cases hstop)]
      rfl
     ·exact HBIG.out (by omega)
    clear hstop
    go_wp2_with (first | (refine wpList_store_rowG rfl 37 (.tmp 7) (.tmp 17) rfl wr.heap.size #[.int .i64 p.1, .string zo, .string zd, .slice As ns cs, .string zf, .slice Aa na ca] rfl rfl 37 st0 HXA.out infoSt rfl (by simp [Value.oneCell']) ?_; intro W2 hr2 hg2; (have HR2 := Lib.hid hr2); (have HB2 : Hid (Below wr.heap.size wr W2) := HBA.out.grown hg2 HBA.out.size (fun q e => by injection e with e; omega)); clear hr2 hg2; (have HQ2 := Lib.hid (HQ.out.on HB2.out)); (have x0 : W2.cell? ⟨wr.heap.size, 0, none⟩ = some (.int .i64 p.1) := Ard.row_cell HR2.out 0); (have x1 : W2.cell? ⟨wr.heap.size, 1, none⟩ = some (.string zo) := Ard.row_cell HR2.out 1); (have x2 : W2.cell? ⟨wr.heap.size, 2, none⟩ = some (.string zd) := Ard.row_cell HR2.out 2); (have x3 : W2.cell? ⟨wr.heap.size, 3, none⟩ = some (.slice As ns cs) := Ard.row_cell HR2.out 3); (have x4 : W2.cell? ⟨wr.heap.size, 4, none⟩ = some (.string zf) := Ard.row_cell HR2.out 4); (have x5 : W2.cell? ⟨wr.heap.size, 5, none⟩ = some (.slice Aa na ca) := Ard.row_cell HR2.out 5); (have HSPW := Lib.hid (HSPL.out W2 HB2.out))) | (refine wpList_load_row rfl 37 (.tmp 7) rfl wr.heap.size rfl 37 #[.int .i64 p.1, .string zo, .string zd, .slice As ns cs, .string zf, .slice Aa na ca] (0, 0) _ HR2.out Tryz.underlying37 rfl infoSt ?_) | (go_at_call 29; refine HSPW.out.mono ?_; rintro e V3 ⟨hb3, he⟩; rw [if_pos HSTP.out] at he; subst he; (have HQ3 := Lib.hid (HQ2.out.on hb3)); clear hb3) | fail)
    refine bodyPost_ret (results_tmp2 rfl _ _ _) rfl ?_
    refine ⟨?_, HQ3.out.bel⟩
    rw [HE.out]
    rfl
   | false =>
    have HSTP := Lib.hid hstop
    have q0 : ((wn : Int) == 0) = false := by simp; omega
    clear hstop hw1
    by_cases h64 : 64 < n
    ·have q1 : decide ((64 : Int) < (n : Int)) = true := decide_eq_true (by omega)
     have q2 : decide (64 < n) = true := decide_eq_true h64
     have HE : Hid (res = ([], 7)) := HBIG.out h64
     clear h64
     go_wp2_with (first | (refine wpList_store_rowG rfl 37 (.tmp 7) (.tmp 17) rfl wr.heap.size #[.int .i64 p.1, .string zo, .string zd, .slice As ns cs, .string zf, .slice Aa na ca] rfl rfl 37 st0 HXA.out infoSt rfl (by simp [Value.oneCell']) ?_; intro W2 hr2 hg2; (have HR2 := Lib.hid hr2); (have HB2 : Hid (Below wr.heap.size wr W2) := HBA.out.grown hg2 HBA.out.size (fun q e => by injection e with e; omega)); clear hr2 hg2; (have HQ2 := Lib.hid (HQ.out.on HB2.out)); (have x0 : W2.cell? ⟨wr.heap.size, 0, none⟩ = some (.int .i64 p.1) := Ard.row_cell HR2.out 0); (have x1 : W2.cell? ⟨wr.heap.size, 1, none⟩ = some (.string zo) := Ard.row_cell HR2.out 1); (have x2 : W2.cell? ⟨wr.heap.size, 2, none⟩ = some (.string zd) := Ard.row_cell HR2.out 2); (have x3 : W2.cell? ⟨wr.heap.size, 3, none⟩ = some (.slice As ns cs) := Ard.row_cell HR2.out 3); (have x4 : W2.cell? ⟨wr.heap.size, 4, none⟩ = some (.string zf) := Ard.row_cell HR2.out 4); (have x5 : W2.cell? ⟨wr.heap.size, 5, none⟩ = some (.slice Aa na ca) := Ard.row_cell HR2.out 5); (have HSPW := Lib.hid (HSPL.out W2 HB2.out))) | (refine wpList_load_row rfl 37 (.tmp 7) rfl wr.heap.size rfl 37 #[.int .i64 p.1, .string zo, .string zd, .slice As ns cs, .string zf, .slice Aa na ca] (0, 0) _ HR2.out Tryz.underlying37 rfl infoSt ?_) | (go_at_call 29; refine HSPW.out.mono ?_; rintro e V3 ⟨hb3, he⟩; rw [if_neg (by rw [HSTP.out]; decide)] at he; obtain ⟨A8, c8, he, hown⟩ := he; rw [HWN.out] at he hown; subst he; (have HQ3 := Lib.hid (HQ2.out.on hb3)); (have hx7 := (hb3.block _ (Array.getElem?_eq_some_iff.1 HR2.out).1).trans HR2.out); (have HR3 := Lib.hid hx7); clear hx7 x0 x1 x2 x3 x4 x5; (have HO8 := Lib.hid hown); (have HB3 := Lib.hid (HB2.out.trans (hb3.mono HB2.out.size))); (have HC8 := Lib.hid (own_cap hown)); clear hown hb3; (have HSTE := Lib.hid (HSTEP.out V3 A8 c8 (SS.of_own HO8.out (by have := HWNB.out; omega)) HC8.out))) | fail)
     refine bodyPost_ret (results_tmp2 rfl _ _ _) rfl ?_
     refine ⟨?_, HQ3.out.bel⟩
     rw [HE.out]
     rfl
    have q1 : decide ((64 : Int) < (n : Int)) = false := decide_eq_false (by omega)
    have q2 : decide (64 < n) = false := decide_eq_false h64
    have HI64 : Hid (n ≤ 64) := by show _ ≤ _; omega
    have HREM3 := Lib.hid (HREM2.out HI64.out)
    clear h64
    cases hst : stepM (spellW p.2) with
    | none =>
     have HE : Hid (res = ([], 7)) := by show _ = _; rw [← HREM3.out, if_neg (fun h => by rw [h.2.1] at hst; cases hst)]; rfl
     rw [hst] at HSTEP
     clear hst
     go_wp2_with (first | (refine wpList_store_rowG rfl 37 (.tmp 7) (.tmp 17) rfl wr.heap.size #[.int .i64 p.1, .string zo, .string zd, .slice As ns cs, .string zf, .slice Aa na ca] rfl rfl 37 st0 HXA.out infoSt rfl (by simp [Value.oneCell']) ?_; intro W2 hr2 hg2; (have HR2 := Lib.hid hr2); (have HB2 : Hid (Below wr.heap.size wr W2) := HBA.out.grown hg2 HBA.out.size (fun q e => by injection e with e; omega)); clear hr2 hg2; (have HQ2 := Lib.hid (HQ.out.on HB2.out)); (have x0 : W2.cell? ⟨wr.heap.size, 0, none⟩ = some (.int .i64 p.1) := Ard.row_cell HR2.out 0); (have x1 : W2.cell? ⟨wr.heap.size, 1, none⟩ = some (.string zo) := Ard.row_cell HR2.out 1); (have x2 : W2.cell? ⟨wr.heap.size, 2, none⟩ = some (.string zd) := Ard.row_cell HR2.out 2); (have x3 : W2.cell? ⟨wr.heap.size, 3, none⟩ = some (.slice As ns cs) := Ard.row_cell HR2.out 3); (have x4 : W2.cell? ⟨wr.heap.size, 4, none⟩ = some (.string zf) := Ard.row_cell HR2.out 4); (have x5 : W2.cell? ⟨wr.heap.size, 5, none⟩ = some (.slice Aa na ca) := Ard.row_cell HR2.out 5); (have HSPW := Lib.hid (HSPL.out W2 HB2.out))) | (refine wpList_load_row rfl 37 (.tmp 7) rfl wr.heap.size rfl 37 #[.int .i64 p.1, .string zo, .string zd, .slice As ns cs, .string zf, .slice Aa na ca] (0, 0) _ HR2.out Tryz.underlying37 rfl infoSt ?_) | (go_at_call 29; refine HSPW.out.mono ?_; rintro e V3 ⟨hb3, he⟩; rw [if_neg (by rw [HSTP.out]; decide)] at he; obtain ⟨A8, c8, he, hown⟩ := he; rw [HWN.out] at he hown; subst he; (have HQ3 := Lib.hid (HQ2.out.on hb3)); (have hx7 := (hb3.block _ (Array.getElem?_eq_some_iff.1 HR2.out).1).trans HR2.out); (have HR3 := Lib.hid hx7); clear hx7 x0 x1 x2 x3 x4 x5; (have HO8 := Lib.hid hown); (have HB3 := Lib.hid (HB2.out.trans (hb3.mono HB2.out.size))); (have HC8 := Lib.hid (own_cap hown)); clear hown hb3; (have HSTE := Lib.hid (HSTEP.out V3 A8 c8 (SS.of_own HO8.out (by have := HWNB.out; omega)) HC8.out))) | (go_at_call 23; refine HSTE.out.mono ?_; rintro e V4 ⟨hb4, he⟩; (try (simp only at he)); subst he; (have HQ4 := Lib.hid (HQ3.out.on hb4)); obtain ⟨SC, hSC⟩ : ∃ x, st0 = x := ⟨_, rfl⟩; (have HS6 : Hid (SC.size = 6) := (by rw [← hSC]; exact st0_size)); (have HONE : Hid (SC.all (·.oneCell') = true) := (by rw [← hSC]; exact st0_one)); rw [hSC]; clear hb4; obtain ⟨WB, hWB⟩ : ∃ x, V4.alloc (.cells #[.int .i64 0, .string ⟨#[]⟩, .string ⟨#[]⟩, .slice none 0 0, .string ⟨#[]⟩, .slice none 0 0] 37) = x := ⟨_, rfl⟩; (have HXB : Hid (WB.heap[V4.heap.size]? = some (.cells st0 37 (0, 0))) := (by rw [← hWB]; exact heap_alloc_new V4 _)); (have HBB : Hid (Below V4.heap.size V4 WB) := (by rw [← hWB]; exact (Below.refl _ _).alloc (Nat.le_refl _) _))) | (refine wpList_store_rowG rfl 37 (.tmp 9) (.tmp 31) rfl V4.heap.size SC rfl rfl 37 st0 HXB.out (by rw [HS6.out]; exact infoSt) (by rw [HS6.out]; rfl) HONE.out ?_; intro W5 hr5 hg5; (have HB5 : Hid (Below V4.heap.size V4 W5) := HBB.out.grown hg5 HBB.out.size (fun q e => by injection e with e; omega)); clear hr5 hg5; (have HQ5 := Lib.hid (HQ4.out.on HB5.out))) | fail)
     refine bodyPost_ret (results_tmp2 rfl _ _ _) rfl ?_
     refine ⟨?_, HQ5.out.bel⟩
     rw [HE.out]
     rfl
    | some s2 =>
     have HST2 := Lib.hid hst
     obtain ⟨EQ, hEQ⟩ : ∃ b, decide (p.2 = s2) = b := ⟨_, rfl⟩
     have HEQ := Lib.hid hEQ
     have hsm := step_small hst
     have HSRC2 : Hid (s2.srcs.length ≤ wn + 1) := by show _ ≤ _; rw [← HWN.out]; exact stepM_srcs hst
     have HARG2 : Hid (s2.args.length ≤ wn + 1) := by show _ ≤ _; rw [← HWN.out]; exact stepM_args hst
     rw [hst] at HSTEP
     have HSAME : Hid (∀ V, Below wr.heap.size wr V → ∀ {B2 A2 : Option Addr} {b1 b2 ns2 cs2 na2 ca2 : Nat}, V.ownsRow b1 9 1 (.slice B2 ns2 cs2) ns2 (s2.srcs.map vS) → V.ownsRow b2 3 1 (.slice A2 na2 ca2) na2 (s2.args.map (.int .i64)) → Calls Tryz.prog 30 #[.agg #[.int .i64 p.1, .string zo, .string zd, .slice As ns cs, .string zf, .slice Aa na ca], .agg #[.int .i64 0, .string (ba s2.op), .string (ba s2.dst), .slice B2 ns2 cs2, .string (ba s2.file), .slice A2 na2 ca2]] V (fun e w' => ∃ r : Bool, e = .returned (.bool r) ∧ (r = true ↔ p.2 = s2) ∧ Below V.heap.size V w')) := by
      intro V hV B2 A2 b1 b2 ns2 cs2 na2 ca2 g1 g2
      have k1 := g1.1
      have k2 := g2.1
      simp only [List.length_map, Nat.mul_one] at k1 k2
      exact HSAME0.out s2 V hV B2 A2 b1 b2 ns2 cs2 na2 ca2 g1 g2 (by have := HSRC2.out; have := HWNB.out; omega) (by have := HARG2.out; have := HWNB.out; omega)
     obtain ⟨zo2, hzo2⟩ : ∃ z, ba s2.op = z := ⟨_, rfl⟩
     obtain ⟨zd2, hzd2⟩ : ∃ z, ba s2.dst = z := ⟨_, rfl⟩
     obtain ⟨zf2, hzf2⟩ : ∃ z, ba s2.file = z := ⟨_, rfl⟩
     rw [hzo2, hzd2, hzf2] at HSAME
     have HZ2 : Hid (ba s2.op = zo2 ∧ ba s2.dst = zd2 ∧ ba s2.file = zf2) := ⟨hzo2, hzd2, hzf2⟩
     clear hzo2 hzd2 hzf2
     cases EQ with
     | false =>
      have HE : Hid (res = ([], 7)) := by
       show _ = _
       rw [← HREM3.out, if_neg (fun h => by
        have h2 : some s2 = some p.2 := HST2.out.symm.trans h.2.1
        injection h2 with h2
        exact of_decide_eq_false HEQ.out h2.symm)]
       rfl
      have HCFA : Hid (∀ V, Below wr.heap.size wr V → WQ w V bs known i → True) := fun _ _ _ => trivial
      clear hst hEQ hsm
      go_wp2_with (first | (refine wpList_store_rowG rfl 37 (.tmp 7) (.tmp 17) rfl wr.heap.size #[.int .i64 p.1, .string zo, .string zd, .slice As ns cs, .string zf, .slice Aa na ca] rfl rfl 37 st0 HXA.out infoSt rfl (by simp [Value.oneCell']) ?_; intro W2 hr2 hg2; (have HR2 := Lib.hid hr2); (have HB2 : Hid (Below wr.heap.size wr W2) := HBA.out.grown hg2 HBA.out.size (fun q e => by injection e with e; omega)); clear hr2 hg2; (have HQ2 := Lib.hid (HQ.out.on HB2.out)); (have x0 : W2.cell? ⟨wr.heap.size, 0, none⟩ = some (.int .i64 p.1) := Ard.row_cell HR2.out 0); (have x1 : W2.cell? ⟨wr.heap.size, 1, none⟩ = some (.string zo) := Ard.row_cell HR2.out 1); (have x2 : W2.cell? ⟨wr.heap.size, 2, none⟩ = some (.string zd) := Ard.row_cell HR2.out 2); (have x3 : W2.cell? ⟨wr.heap.size, 3, none⟩ = some (.slice As ns cs) := Ard.row_cell HR2.out 3); (have x4 : W2.cell? ⟨wr.heap.size, 4, none⟩ = some (.string zf) := Ard.row_cell HR2.out 4); (have x5 : W2.cell? ⟨wr.heap.size, 5, none⟩ = some (.slice Aa na ca) := Ard.row_cell HR2.out 5); (have HSPW := Lib.hid (HSPL.out W2 HB2.out))) | (refine wpList_load_row rfl 37 (.tmp 7) rfl wr.heap.size rfl 37 #[.int .i64 p.1, .string zo, .string zd, .slice As ns cs, .string zf, .slice Aa na ca] (0, 0) _ HR2.out Tryz.underlying37 rfl infoSt ?_) | (go_at_call 29; refine HSPW.out.mono ?_; rintro e V3 ⟨hb3, he⟩; rw [if_neg (by rw [HSTP.out]; decide)] at he; obtain ⟨A8, c8, he, hown⟩ := he; rw [HWN.out] at he hown; subst he; (have HQ3 := Lib.hid (HQ2.out.on hb3)); (have hx7 := (hb3.block _ (Array.getElem?_eq_some_iff.1 HR2.out).1).trans HR2.out); (have HR3 := Lib.hid hx7); clear hx7 x0 x1 x2 x3 x4 x5; (have HO8 := Lib.hid hown); (have HB3 := Lib.hid (HB2.out.trans (hb3.mono HB2.out.size))); (have HC8 := Lib.hid (own_cap hown)); clear hown hb3; (have HSTE := Lib.hid (HSTEP.out V3 A8 c8 (SS.of_own HO8.out (by have := HWNB.out; omega)) HC8.out))) | (go_at_call 23; refine HSTE.out.mono ?_; rintro e V4 ⟨hb4, he⟩; (try (simp only at he)); obtain ⟨Bs, ns2, cs2, Ba, na2, ca2, he, ho1, ho2⟩ := he; rw [HZ2.out.1, HZ2.out.2.1, HZ2.out.2.2] at he; subst he; (have HQ4 := Lib.hid (HQ3.out.on hb4)); (have hx7 := (hb4.block _ (Array.getElem?_eq_some_iff.1 HR3.out).1).trans HR3.out); (have HR4 := Lib.hid hx7); (have HB4 := Lib.hid (HB3.out.trans (hb4.mono HB3.out.size))); (have HO84 := Lib.hid (own_below HO8.out hb4)); (have HP1 := Lib.hid ho1); (have HP2 := Lib.hid ho2); unfold stC; clear hx7 hb4 ho1 ho2; obtain ⟨WB, hWB⟩ : ∃ x, V4.alloc (.cells #[.int .i64 0, .string ⟨#[]⟩, .string ⟨#[]⟩, .slice none 0 0, .string ⟨#[]⟩, .slice none 0 0] 37) = x := ⟨_, rfl⟩; (have HXB : Hid (WB.heap[V4.heap.size]? = some (.cells st0 37 (0, 0))) := (by rw [← hWB]; exact heap_alloc_new V4 _)); (have HBB : Hid (Below V4.heap.size V4 WB) := (by rw [← hWB]; exact (Below.refl _ _).alloc (Nat.le_refl _) _))) | (refine wpList_store_rowG rfl 37 (.tmp 9) (.tmp 31) rfl V4.heap.size #[.int .i64 0, .string zo2, .string zd2, .slice Bs ns2 cs2, .string zf2, .slice Ba na2 ca2] rfl rfl 37 st0 HXB.out infoSt rfl (by simp [Value.oneCell']) ?_; intro W5 hr5 hg5; (have HB5 : Hid (Below V4.heap.size V4 W5) := HBB.out.grown hg5 HBB.out.size (fun q e => by injection e with e; omega)); (have HR5 := Lib.hid hr5); clear hr5 hg5; (have HQ5 := Lib.hid (HQ4.out.on HB5.out)); (have HB45 := Lib.hid (HB4.out.trans (HB5.out.mono HB4.out.size))); (have hx7 := (HB5.out.block _ (Array.getElem?_eq_some_iff.1 HR4.out).1).trans HR4.out); (have HR75 := Lib.hid hx7); clear hx7; (have x0 : W5.cell? ⟨wr.heap.size, 0, none⟩ = some (.int .i64 p.1) := Ard.row_cell HR75.out 0); (have x1 : W5.cell? ⟨wr.heap.size, 1, none⟩ = some (.string zo) := Ard.row_cell HR75.out 1); (have x2 : W5.cell? ⟨wr.heap.size, 2, none⟩ = some (.string zd) := Ard.row_cell HR75.out 2); (have x3 : W5.cell? ⟨wr.heap.size, 3, none⟩ = some (.slice As ns cs) := Ard.row_cell HR75.out 3); (have x4 : W5.cell? ⟨wr.heap.size, 4, none⟩ = some (.string zf) := Ard.row_cell HR75.out 4); (have x5 : W5.cell? ⟨wr.heap.size, 5, none⟩ = some (.slice Aa na ca) := Ard.row_cell HR75.out 5); (have y0 : W5.cell? ⟨V4.heap.size, 0, none⟩ = some (.int .i64 0) := Ard.row_cell HR5.out 0); (have y1 : W5.cell? ⟨V4.heap.size, 1, none⟩ = some (.string zo2) := Ard.row_cell HR5.out 1); (have y2 : W5.cell? ⟨V4.heap.size, 2, none⟩ = some (.string zd2) := Ard.row_cell HR5.out 2); (have y3 : W5.cell? ⟨V4.heap.size, 3, none⟩ = some (.slice Bs ns2 cs2) := Ard.row_cell HR5.out 3); (have y4 : W5.cell? ⟨V4.heap.size, 4, none⟩ = some (.string zf2) := Ard.row_cell HR5.out 4); (have y5 : W5.cell? ⟨V4.heap.size, 5, none⟩ = some (.slice Ba na2 ca2) := Ard.row_cell HR5.out 5); (have HSM := Lib.hid (HSAME.out W5 HB45.out (own_below HP1.out HB5.out) (own_below HP2.out HB5.out)))) | (go_at_call 30; refine HSM.out.mono ?_; rintro e V6 ⟨b6, he, hiff, hb6⟩; (have hbf : b6 = decide (p.2 = s2) := (by cases b6 with | true => (exact (decide_eq_true (hiff.1 rfl)).symm) | false => (exact (decide_eq_false (fun h => by cases hiff.2 h)).symm))); rw [HEQ.out] at hbf; subst hbf; subst he; (have HQ6 := Lib.hid (HQ5.out.on hb6)); (have HB6 := Lib.hid (HB45.out.trans (hb6.mono HB45.out.size))); (have hx7 := (hb6.block _ (Array.getElem?_eq_some_iff.1 HR75.out).1).trans HR75.out); (have HR76 := Lib.hid hx7); (have x36 : V6.cell? ⟨wr.heap.size, 3, none⟩ = some (.slice As ns cs) := Ard.row_cell hx7 3); (have xb6 : V6.cell? ⟨w.heap.size + 1 + 1, 0, none⟩ = some (.map (some (w.heap.size + 1))) := HQ6.out.cell); (have HO86 := Lib.hid (own_below HO84.out (HB5.out.trans (hb6.mono HB5.out.size)))); clear hiff hb6 hx7 x0 x1 x2 x3 x4 x5 y0 y1 y2 y3 y4 y5; (have HCFW := Lib.hid (HCFA.out V6 HB6.out HQ6.out))) | fail)
      refine bodyPost_ret (results_tmp2 rfl _ _ _) rfl ?_
      refine ⟨?_, HQ6.out.bel⟩
      rw [HE.out]
      rfl
     | true =>
      have heq : p.2 = s2 := of_decide_eq_true hEQ
      have HDL : Hid (p.2.dst.length ≤ maxLen) := by show _ ≤ _; rw [heq]; have := hsm.2.1; unfold maxLen; omega
      have hsl : ∀ t ∈ p.2.srcs, t.length ≤ maxLen := fun t ht => by rw [heq] at ht; have := hsm.2.2.1 t ht; unfold maxLen; omega
      have HSL := Lib.hid hsl
      have HSML : Hid (∀ u ∈ spellW p.2, u.length ≤ 21) := words_small (s := p.2) (by rw [heq] at hst ⊢; exact hst) HFIT.out.2.2
      obtain ⟨al, hal⟩ : ∃ b, p.2.srcs.all known.contains = b := ⟨_, rfl⟩
      have HAL := Lib.hid hal
      have HCFA : Hid (∀ V, Below wr.heap.size wr V → WQ w V bs known i → Calls Tryz.prog 24 #[.slice As ns cs, .func (.func 31) #[] #[.pointer (some ⟨w.heap.size + 1 + 1, 0, none⟩)]] V fun e w' => e = .returned (.bool (!al)) ∧ Below V.heap.size V w') := by
       intro V hV hq
       have := containsW_sl hq.km hq.cell (HSSW.out.below hV) HSL.out (c := cs)
       have ha : p.2.srcs.all (fun t => known.contains t) = al := HAL.out
       rw [ha] at this
       exact this
      have HCOND : Hid (stepM (spellW p.2) = some p.2) := by show _ = _; rw [HST2.out, heq]
      clear hst hEQ hsm hsl hal heq
      cases al with
      | false =>
       have HE : Hid (res = ([], 7)) := by show _ = _; rw [← HREM3.out, if_neg (fun h => by have h2 := HAL.out.symm.trans h.2.2; cases h2)]; rfl
       go_wp2_with (first | (refine wpList_store_rowG rfl 37 (.tmp 7) (.tmp 17) rfl wr.heap.size #[.int .i64 p.1, .string zo, .string zd, .slice As ns cs, .string zf, .slice Aa na ca] rfl rfl 37 st0 HXA.out infoSt rfl (by simp [Value.oneCell']) ?_; intro W2 hr2 hg2; (have HR2 := Lib.hid hr2); (have HB2 : Hid (Below wr.heap.size wr W2) := HBA.out.grown hg2 HBA.out.size (fun q e => by injection e with e; omega)); clear hr2 hg2; (have HQ2 := Lib.hid (HQ.out.on HB2.out)); (have x0 : W2.cell? ⟨wr.heap.size, 0, none⟩ = some (.int .i64 p.1) := Ard.row_cell HR2.out 0); (have x1 : W2.cell? ⟨wr.heap.size, 1, none⟩ = some (.string zo) := Ard.row_cell HR2.out 1); (have x2 : W2.cell? ⟨wr.heap.size, 2, none⟩ = some (.string zd) := Ard.row_cell HR2.out 2); (have x3 : W2.cell? ⟨wr.heap.size, 3, none⟩ = some (.slice As ns cs) := Ard.row_cell HR2.out 3); (have x4 : W2.cell? ⟨wr.heap.size, 4, none⟩ = some (.string zf) := Ard.row_cell HR2.out 4); (have x5 : W2.cell? ⟨wr.heap.size, 5, none⟩ = some (.slice Aa na ca) := Ard.row_cell HR2.out 5); (have HSPW := Lib.hid (HSPL.out W2 HB2.out))) | (refine wpList_load_row rfl 37 (.tmp 7) rfl wr.heap.size rfl 37 #[.int .i64 p.1, .string zo, .string zd, .slice As ns cs, .string zf, .slice Aa na ca] (0, 0) _ HR2.out Tryz.underlying37 rfl infoSt ?_) | (go_at_call 29; refine HSPW.out.mono ?_; rintro e V3 ⟨hb3, he⟩; rw [if_neg (by rw [HSTP.out]; decide)] at he; obtain ⟨A8, c8, he, hown⟩ := he; rw [HWN.out] at he hown; subst he; (have HQ3 := Lib.hid (HQ2.out.on hb3)); (have hx7 := (hb3.block _ (Array.getElem?_eq_some_iff.1 HR2.out).1).trans HR2.out); (have HR3 := Lib.hid hx7); clear hx7 x0 x1 x2 x3 x4 x5; (have HO8 := Lib.hid hown); (have HB3 := Lib.hid (HB2.out.trans (hb3.mono HB2.out.size))); (have HC8 := Lib.hid (own_cap hown)); clear hown hb3; (have HSTE := Lib.hid (HSTEP.out V3 A8 c8 (SS.of_own HO8.out (by have := HWNB.out; omega)) HC8.out))) | (go_at_call 23; refine HSTE.out.mono ?_; rintro e V4 ⟨hb4, he⟩; (try (simp only at he)); obtain ⟨Bs, ns2, cs2, Ba, na2, ca2, he, ho1, ho2⟩ := he; rw [HZ2.out.1, HZ2.out.2.1, HZ2.out.2.2] at he; subst he; (have HQ4 := Lib.hid (HQ3.out.on hb4)); (have hx7 := (hb4.block _ (Array.getElem?_eq_some_iff.1 HR3.out).1).trans HR3.out); (have HR4 := Lib.hid hx7); (have HB4 := Lib.hid (HB3.out.trans (hb4.mono HB3.out.size))); (have HO84 := Lib.hid (own_below HO8.out hb4)); (have HP1 := Lib.hid ho1); (have HP2 := Lib.hid ho2); unfold stC; clear hx7 hb4 ho1 ho2; obtain ⟨WB, hWB⟩ : ∃ x, V4.alloc (.cells #[.int .i64 0, .string ⟨#[]⟩, .string ⟨#[]⟩, .slice none 0 0, .string ⟨#[]⟩, .slice none 0 0] 37) = x := ⟨_, rfl⟩; (have HXB : Hid (WB.heap[V4.heap.size]? = some (.cells st0 37 (0, 0))) := (by rw [← hWB]; exact heap_alloc_new V4 _)); (have HBB : Hid (Below V4.heap.size V4 WB) := (by rw [← hWB]; exact (Below.refl _ _).alloc (Nat.le_refl _) _))) | (refine wpList_store_rowG rfl 37 (.tmp 9) (.tmp 31) rfl V4.heap.size #[.int .i64 0, .string zo2, .string zd2, .slice Bs ns2 cs2, .string zf2, .slice Ba na2 ca2] rfl rfl 37 st0 HXB.out infoSt rfl (by simp [Value.oneCell']) ?_; intro W5 hr5 hg5; (have HB5 : Hid (Below V4.heap.size V4 W5) := HBB.out.grown hg5 HBB.out.size (fun q e => by injection e with e; omega)); (have HR5 := Lib.hid hr5); clear hr5 hg5; (have HQ5 := Lib.hid (HQ4.out.on HB5.out)); (have HB45 := Lib.hid (HB4.out.trans (HB5.out.mono HB4.out.size))); (have hx7 := (HB5.out.block _ (Array.getElem?_eq_some_iff.1 HR4.out).1).trans HR4.out); (have HR75 := Lib.hid hx7); clear hx7; (have x0 : W5.cell? ⟨wr.heap.size, 0, none⟩ = some (.int .i64 p.1) := Ard.row_cell HR75.out 0); (have x1 : W5.cell? ⟨wr.heap.size, 1, none⟩ = some (.string zo) := Ard.row_cell HR75.out 1); (have x2 : W5.cell? ⟨wr.heap.size, 2, none⟩ = some (.string zd) := Ard.row_cell HR75.out 2); (have x3 : W5.cell? ⟨wr.heap.size, 3, none⟩ = some (.slice As ns cs) := Ard.row_cell HR75.out 3); (have x4 : W5.cell? ⟨wr.heap.size, 4, none⟩ = some (.string zf) := Ard.row_cell HR75.out 4); (have x5 : W5.cell? ⟨wr.heap.size, 5, none⟩ = some (.slice Aa na ca) := Ard.row_cell HR75.out 5); (have y0 : W5.cell? ⟨V4.heap.size, 0, none⟩ = some (.int .i64 0) := Ard.row_cell HR5.out 0); (have y1 : W5.cell? ⟨V4.heap.size, 1, none⟩ = some (.string zo2) := Ard.row_cell HR5.out 1); (have y2 : W5.cell? ⟨V4.heap.size, 2, none⟩ = some (.string zd2) := Ard.row_cell HR5.out 2); (have y3 : W5.cell? ⟨V4.heap.size, 3, none⟩ = some (.slice Bs ns2 cs2) := Ard.row_cell HR5.out 3); (have y4 : W5.cell? ⟨V4.heap.size, 4, none⟩ = some (.string zf2) := Ard.row_cell HR5.out 4); (have y5 : W5.cell? ⟨V4.heap.size, 5, none⟩ = some (.slice Ba na2 ca2) := Ard.row_cell HR5.out 5); (have HSM := Lib.hid (HSAME.out W5 HB45.out (own_below HP1.out HB5.out) (own_below HP2.out HB5.out)))) | (go_at_call 30; refine HSM.out.mono ?_; rintro e V6 ⟨b6, he, hiff, hb6⟩; (have hbf : b6 = decide (p.2 = s2) := (by cases b6 with | true => (exact (decide_eq_true (hiff.1 rfl)).symm) | false => (exact (decide_eq_false (fun h => by cases hiff.2 h)).symm))); rw [HEQ.out] at hbf; subst hbf; subst he; (have HQ6 := Lib.hid (HQ5.out.on hb6)); (have HB6 := Lib.hid (HB45.out.trans (hb6.mono HB45.out.size))); (have hx7 := (hb6.block _ (Array.getElem?_eq_some_iff.1 HR75.out).1).trans HR75.out); (have HR76 := Lib.hid hx7); (have x36 : V6.cell? ⟨wr.heap.size, 3, none⟩ = some (.slice As ns cs) := Ard.row_cell hx7 3); (have xb6 : V6.cell? ⟨w.heap.size + 1 + 1, 0, none⟩ = some (.map (some (w.heap.size + 1))) := HQ6.out.cell); (have HO86 := Lib.hid (own_below HO84.out (HB5.out.trans (hb6.mono HB5.out.size)))); clear hiff hb6 hx7 x0 x1 x2 x3 x4 x5 y0 y1 y2 y3 y4 y5; (have HCFW := Lib.hid (HCFA.out V6 HB6.out HQ6.out))) | (go_at_call 24; refine HCFW.out.mono ?_; rintro e V7 ⟨rfl, hb7⟩; (have HQ7 := Lib.hid (HQ6.out.on hb7)); (have hx7 := (hb7.block _ (Array.getElem?_eq_some_iff.1 HR76.out).1).trans HR76.out); (have x27 : V7.cell? ⟨wr.heap.size, 2, none⟩ = some (.string zd) := Ard.row_cell hx7 2); (have xb7 : V7.cell? ⟨w.heap.size + 1 + 1, 0, none⟩ = some (.map (some (w.heap.size + 1))) := HQ7.out.cell); (have HO87 := Lib.hid (own_below HO86.out hb7)); clear hb7 hx7 x36 xb6) | fail)
       refine bodyPost_ret (results_tmp2 rfl _ _ _) rfl ?_
       refine ⟨?_, HQ7.out.bel⟩
       rw [HE.out]
       rfl
      | true =>
       have HGO : Hid (wrR (writeP (ll.drop (i + 1)) (bs ++ (joinM (spellW p.2) ++ [10])) (p.2.dst :: known)) = res) := by show _ = _; rw [← HREM3.out, if_pos ⟨HSTP.out, HCOND.out, HAL.out⟩]
       have hjl := join_small (spellW p.2) 21 HSML.out
       rw [HWN.out] at hjl
       have HJL : Hid ((joinM (spellW p.2) ++ [10]).length ≤ 1600000000000) := by show _ ≤ _; rw [List.length_append]; have := HWNB.out; simp; omega
       have HWSX0 : Hid (∀ V, WQ w V bs (p.2.dst :: known) (i + 1) → Calls Tryz.prog 32 #[.pointer (some ⟨w.heap.size, 0, none⟩), .string (ba (joinM (spellW p.2) ++ [10]))] V fun e w' => e = .returned (.tuple #[.int .i64 (ba (joinM (spellW p.2) ++ [10])).size, .nilIface]) ∧ (Lib.BuilderAtF 60 5 w.heap.size w.heap.size (.pointer (some ⟨w.heap.size, 0, none⟩)) (Lib.byteCells bs ++ Lib.strCells (ba (joinM (spellW p.2) ++ [10]))) w' ∧ Below w.heap.size V w' ∧ Lib.OthersKept 5 (some w.heap.size) V w')) := fun V hq => Scs.Builder_WriteString_k w.heap.size w.heap.size (Lib.byteCells bs) _ V hq.bd (by rw [Lib.byteCells_length, ba_size]; have := HJL.out; have := HBS.out; have := HLT.out; have := HI64.out; omega) hq.bel.size
       obtain ⟨zj, hzj⟩ : ∃ z, ba (joinM (spellW p.2)) = z := ⟨_, rfl⟩
       have hzj2 : ba (joinM (spellW p.2) ++ [10]) = zj ++ ⟨#[10]⟩ := by rw [ba_app, hzj]; rfl
       have h9 : ¬ 9223372036854775807 < zj.size + 1 := by rw [← hzj, ba_size]; have := HJL.out; rw [List.length_append] at this; simp at this; omega
       have HZJ := Lib.hid hzj
       have HWSX : Hid (∀ V, WQ w V bs (p.2.dst :: known) (i + 1) → Calls Tryz.prog 32 #[.pointer (some ⟨w.heap.size, 0, none⟩), .string (zj ++ ⟨#[10]⟩)] V fun e w' => e = .returned (.tuple #[.int .i64 (ba (joinM (spellW p.2) ++ [10])).size, .nilIface]) ∧ (Lib.BuilderAtF 60 5 w.heap.size w.heap.size (.pointer (some ⟨w.heap.size, 0, none⟩)) (Lib.byteCells bs ++ Lib.strCells (ba (joinM (spellW p.2) ++ [10]))) w' ∧ Below w.heap.size V w' ∧ Lib.OthersKept 5 (some w.heap.size) V w')) := fun V hq => by rw [← hzj2]; exact HWSX0.out V hq
       clear hjl hzj hzj2
       go_wp2_with (first | (refine wpList_store_rowG rfl 37 (.tmp 7) (.tmp 17) rfl wr.heap.size #[.int .i64 p.1, .string zo, .string zd, .slice As ns cs, .string zf, .slice Aa na ca] rfl rfl 37 st0 HXA.out infoSt rfl (by simp [Value.oneCell']) ?_; intro W2 hr2 hg2; (have HR2 := Lib.hid hr2); (have HB2 : Hid (Below wr.heap.size wr W2) := HBA.out.grown hg2 HBA.out.size (fun q e => by injection e with e; omega)); clear hr2 hg2; (have HQ2 := Lib.hid (HQ.out.on HB2.out)); (have x0 : W2.cell? ⟨wr.heap.size, 0, none⟩ = some (.int .i64 p.1) := Ard.row_cell HR2.out 0); (have x1 : W2.cell? ⟨wr.heap.size, 1, none⟩ = some (.string zo) := Ard.row_cell HR2.out 1); (have x2 : W2.cell? ⟨wr.heap.size, 2, none⟩ = some (.string zd) := Ard.row_cell HR2.out 2); (have x3 : W2.cell? ⟨wr.heap.size, 3, none⟩ = some (.slice As ns cs) := Ard.row_cell HR2.out 3); (have x4 : W2.cell? ⟨wr.heap.size, 4, none⟩ = some (.string zf) := Ard.row_cell HR2.out 4); (have x5 : W2.cell? ⟨wr.heap.size, 5, none⟩ = some (.slice Aa na ca) := Ard.row_cell HR2.out 5); (have HSPW := Lib.hid (HSPL.out W2 HB2.out))) | (refine wpList_load_row rfl 37 (.tmp 7) rfl wr.heap.size rfl 37 #[.int .i64 p.1, .string zo, .string zd, .slice As ns cs, .string zf, .slice Aa na ca] (0, 0) _ HR2.out Tryz.underlying37 rfl infoSt ?_) | (go_at_call 29; refine HSPW.out.mono ?_; rintro e V3 ⟨hb3, he⟩; rw [if_neg (by rw [HSTP.out]; decide)] at he; obtain ⟨A8, c8, he, hown⟩ := he; rw [HWN.out] at he hown; subst he; (have HQ3 := Lib.hid (HQ2.out.on hb3)); (have hx7 := (hb3.block _ (Array.getElem?_eq_some_iff.1 HR2.out).1).trans HR2.out); (have HR3 := Lib.hid hx7); clear hx7 x0 x1 x2 x3 x4 x5; (have HO8 := Lib.hid hown); (have HB3 := Lib.hid (HB2.out.trans (hb3.mono HB2.out.size))); (have HC8 := Lib.hid (own_cap hown)); clear hown hb3; (have HSTE := Lib.hid (HSTEP.out V3 A8 c8 (SS.of_own HO8.out (by have := HWNB.out; omega)) HC8.out))) | (go_at_call 23; refine HSTE.out.mono ?_; rintro e V4 ⟨hb4, he⟩; (try (simp only at he)); obtain ⟨Bs, ns2, cs2, Ba, na2, ca2, he, ho1, ho2⟩ := he; rw [HZ2.out.1, HZ2.out.2.1, HZ2.out.2.2] at he; subst he; (have HQ4 := Lib.hid (HQ3.out.on hb4)); (have hx7 := (hb4.block _ (Array.getElem?_eq_some_iff.1 HR3.out).1).trans HR3.out); (have HR4 := Lib.hid hx7); (have HB4 := Lib.hid (HB3.out.trans (hb4.mono HB3.out.size))); (have HO84 := Lib.hid (own_below HO8.out hb4)); (have HP1 := Lib.hid ho1); (have HP2 := Lib.hid ho2); unfold stC; clear hx7 hb4 ho1 ho2; obtain ⟨WB, hWB⟩ : ∃ x, V4.alloc (.cells #[.int .i64 0, .string ⟨#[]⟩, .string ⟨#[]⟩, .slice none 0 0, .string ⟨#[]⟩, .slice none 0 0] 37) = x := ⟨_, rfl⟩; (have HXB : Hid (WB.heap[V4.heap.size]? = some (.cells st0 37 (0, 0))) := (by rw [← hWB]; exact heap_alloc_new V4 _)); (have HBB : Hid (Below V4.heap.size V4 WB) := (by rw [← hWB]; exact (Below.refl _ _).alloc (Nat.le_refl _) _))) | (refine wpList_store_rowG rfl 37 (.tmp 9) (.tmp 31) rfl V4.heap.size #[.int .i64 0, .string zo2, .string zd2, .slice Bs ns2 cs2, .string zf2, .slice Ba na2 ca2] rfl rfl 37 st0 HXB.out infoSt rfl (by simp [Value.oneCell']) ?_; intro W5 hr5 hg5; (have HB5 : Hid (Below V4.heap.size V4 W5) := HBB.out.grown hg5 HBB.out.size (fun q e => by injection e with e; omega)); (have HR5 := Lib.hid hr5); clear hr5 hg5; (have HQ5 := Lib.hid (HQ4.out.on HB5.out)); (have HB45 := Lib.hid (HB4.out.trans (HB5.out.mono HB4.out.size))); (have hx7 := (HB5.out.block _ (Array.getElem?_eq_some_iff.1 HR4.out).1).trans HR4.out); (have HR75 := Lib.hid hx7); clear hx7; (have x0 : W5.cell? ⟨wr.heap.size, 0, none⟩ = some (.int .i64 p.1) := Ard.row_cell HR75.out 0); (have x1 : W5.cell? ⟨wr.heap.size, 1, none⟩ = some (.string zo) := Ard.row_cell HR75.out 1); (have x2 : W5.cell? ⟨wr.heap.size, 2, none⟩ = some (.string zd) := Ard.row_cell HR75.out 2); (have x3 : W5.cell? ⟨wr.heap.size, 3, none⟩ = some (.slice As ns cs) := Ard.row_cell HR75.out 3); (have x4 : W5.cell? ⟨wr.heap.size, 4, none⟩ = some (.string zf) := Ard.row_cell HR75.out 4); (have x5 : W5.cell? ⟨wr.heap.size, 5, none⟩ = some (.slice Aa na ca) := Ard.row_cell HR75.out 5); (have y0 : W5.cell? ⟨V4.heap.size, 0, none⟩ = some (.int .i64 0) := Ard.row_cell HR5.out 0); (have y1 : W5.cell? ⟨V4.heap.size, 1, none⟩ = some (.string zo2) := Ard.row_cell HR5.out 1); (have y2 : W5.cell? ⟨V4.heap.size, 2, none⟩ = some (.string zd2) := Ard.row_cell HR5.out 2); (have y3 : W5.cell? ⟨V4.heap.size, 3, none⟩ = some (.slice Bs ns2 cs2) := Ard.row_cell HR5.out 3); (have y4 : W5.cell? ⟨V4.heap.size, 4, none⟩ = some (.string zf2) := Ard.row_cell HR5.out 4); (have y5 : W5.cell? ⟨V4.heap.size, 5, none⟩ = some (.slice Ba na2 ca2) := Ard.row_cell HR5.out 5); (have HSM := Lib.hid (HSAME.out W5 HB45.out (own_below HP1.out HB5.out) (own_below HP2.out HB5.out)))) | (go_at_call 30; refine HSM.out.mono ?_; rintro e V6 ⟨b6, he, hiff, hb6⟩; (have hbf : b6 = decide (p.2 = s2) := (by cases b6 with | true => (exact (decide_eq_true (hiff.1 rfl)).symm) | false => (exact (decide_eq_false (fun h => by cases hiff.2 h)).symm))); rw [HEQ.out] at hbf; subst hbf; subst he; (have HQ6 := Lib.hid (HQ5.out.on hb6)); (have HB6 := Lib.hid (HB45.out.trans (hb6.mono HB45.out.size))); (have hx7 := (hb6.block _ (Array.getElem?_eq_some_iff.1 HR75.out).1).trans HR75.out); (have HR76 := Lib.hid hx7); (have x36 : V6.cell? ⟨wr.heap.size, 3, none⟩ = some (.slice As ns cs) := Ard.row_cell hx7 3); (have xb6 : V6.cell? ⟨w.heap.size + 1 + 1, 0, none⟩ = some (.map (some (w.heap.size + 1))) := HQ6.out.cell); (have HO86 := Lib.hid (own_below HO84.out (HB5.out.trans (hb6.mono HB5.out.size)))); clear hiff hb6 hx7 x0 x1 x2 x3 x4 x5 y0 y1 y2 y3 y4 y5; (have HCFW := Lib.hid (HCFA.out V6 HB6.out HQ6.out))) | (go_at_call 24; refine HCFW.out.mono ?_; rintro e V7 ⟨rfl, hb7⟩; (have HQ7 := Lib.hid (HQ6.out.on hb7)); (have hx7 := (hb7.block _ (Array.getElem?_eq_some_iff.1 HR76.out).1).trans HR76.out); (have x27 : V7.cell? ⟨wr.heap.size, 2, none⟩ = some (.string zd) := Ard.row_cell hx7 2); (have xb7 : V7.cell? ⟨w.heap.size + 1 + 1, 0, none⟩ = some (.map (some (w.heap.size + 1))) := HQ7.out.cell); (have HO87 := Lib.hid (own_below HO86.out hb7)); clear hb7 hx7 x36 xb6; obtain ⟨W8, hput, hg8, hq8⟩ := HQ7.out.put (by have := HI64.out; have := HLT.out; unfold maxLen; omega) HDL.out; rw [HZD.out] at hput; (have HQ8 := Lib.hid hq8); (have HO88 : Hid (W8.ownsRow (wr.heap.size) 9 1 (.slice A8 wn c8) wn ((spellW p.2).map vS)) := own_other (own_lower HO87.out HB2.out.size) (by have := HQ.out.sz; omega) hg8); (have HJ := Lib.hid (join_any W8 HO88.out (spell_ne _) HSML.out (by have := HWNB.out; omega))); clear hq8 hg8) | (go_at_call 33; refine HJ.out.mono ?_; rintro e V9 ⟨rfl, hb9⟩; (have HQ9 := Lib.hid (HQ8.out.on hb9)); (rw [HZJ.out]); (have HWRT := Lib.hid (HWSX.out V9 HQ9.out)); clear hb9) | (go_at_call 32; refine HWRT.out.mono ?_; rintro e V10 ⟨rfl, hbd, hbb, hbo⟩; (have HQ10 := Lib.hid (HQ9.out.wrote hbd hbb hbo)); clear hbd hbb hbo) | fail)
       go_roundw
       case rel => exact ⟨i + 1, bs ++ (joinM (spellW p.2) ++ [10]), p.2.dst :: known, HLT.out, by first | rfl | rw [HU.out], HQ10, .inr HI64.out, fun _ => HGO.out, by show _ ≤ _; rw [List.length_append]; have := HJL.out; have := HBS.out; omega⟩
       case measure => first | exact meas_by (d := 1) HLT.out (by omega) | (rw [HU.out]; exact meas_by (d := 1) HLT.out (by omega))
  ·obtain rfl : i = n := by omega
   have d2 : decide ((i : Int) < (i : Int)) = false := decide_eq_false (by omega)
   have h64 : i ≤ 64 := by
    have := HI.out
    omega
   have hR := HR.out h64
   rw [List.drop_of_length_le (by rw [HLLN.out]; exact Nat.le_refl _)] at hR
   have HRES : Hid ((if 8192 < bs.length then (([], 3) : Tx × Int) else (bs, 0)) = res) := hR
   have HLE := Lib.hid (Scs.Builder_Len_f w.heap.size w.heap.size (Lib.byteCells bs) wr HQ.out.bd)
   rw [Lib.byteCells_length] at HLE
   have HB5 : Hid (bs.length ≤ 102400000000000) := by show _ ≤ _; have := HBS.out; omega
   clear hi hlt h64 hR
   by_cases hL : 8192 < bs.length
   ·have d3 : decide ((8192 : Int) < (bs.length : Int)) = true := decide_eq_true (by omega)
    have e3 : decide (8192 < bs.length) = true := decide_eq_true hL
    have HE : Hid (res = ([], 3)) := by show _ = _; rw [← HRES.out, if_pos hL]
    obtain ⟨BL, hBL⟩ : ∃ k, bs.length = k := ⟨_, rfl⟩
    rw [hBL] at d3 e3 HLE
    clear hL hBL
    go_wp2_with (first | (go_at_call 34; refine HLE.out.mono ?_; rintro e V ⟨rfl, rfl⟩) | fail)
    refine bodyPost_ret (results_tmp2 rfl _ _ _) rfl ?_
    refine ⟨?_, HQ.out.bel⟩
    rw [HE.out]
    rfl
   ·have d3 : decide ((8192 : Int) < (bs.length : Int)) = false := decide_eq_false (by omega)
    have e3 : decide (8192 < bs.length) = false := decide_eq_false hL
    have HE : Hid (res = (bs, 0)) := by show _ = _; rw [← HRES.out, if_neg hL]
    have HST := Lib.hid (Scs.Builder_String_any_f w.heap.size w.heap.size bs wr HQ.out.bd HQ.out.bel.size)
    obtain ⟨BL, hBL⟩ : ∃ k, bs.length = k := ⟨_, rfl⟩
    rw [hBL] at d3 e3 HLE
    clear hL hBL
    go_wp2_with (first | (go_at_call 34; refine HLE.out.mono ?_; rintro e V ⟨rfl, hv⟩; rw [hv]; clear hv) | (go_at_call 35; refine HST.out.mono ?_; rintro e V2 ⟨rfl, -, hb2⟩; have HB2 := Lib.hid hb2; clear hb2) | fail)
    refine bodyPost_ret (results_tmp2 rfl _ _ _) rfl ?_
    refine ⟨?_, HQ.out.bel.trans HB2.out⟩
    rw [HE.out]
    rfl
end Go.Proofs.YtoofgblmpjndjaaGreatDoor.Scr
set_option linter.unusedVariables false
set_option linter.unusedSimpArgs false
namespace Go.Proofs.YtoofgblmpjndjaaGreatDoor.Shs
open Go.Joins Go.ChangeShapes Go.WideShapes Go.ChangeAt Go.RowKit Go.Deep Scr

section
variable {H : Type} {enc : TypeId × Value → H} {W : World} {base : Nat}
theorem cellsStep : Tryz.prog.cellsOf 37 = 6 := by kernel_rfl
theorem cellsInt : Tryz.prog.cellsOf 3 = 1 := by kernel_rfl
theorem cellsStr : Tryz.prog.cellsOf 9 = 1 := by kernel_rfl
theorem cellsInts : Tryz.prog.cellsOf 35 = 1 := by kernel_rfl
theorem cellsStrs : Tryz.prog.cellsOf 34 = 1 := by kernel_rfl
theorem wf_i64 {x : Int} (h : (Lit.int .i64 x).wf = true) : -9223372036854775808 ≤ x ∧ x ≤ 9223372036854775807 := bounds_i64 h
def sumT (l : List Tx) : Nat := (l.map fun t => t.length + 1).sum
def FewS (s : St) : Prop := s.op.length ≤ 1048576 ∧ s.dst.length ≤ 1048576 ∧ s.file.length ≤ 1048576 ∧ sumT s.srcs ≤ 1048576 ∧ s.srcs.length ≤ 1048576 ∧ s.args.length ≤ 1048576 ∧ ∀ a ∈ s.args, -9223372036854775808 ≤ a ∧ a ≤ 9223372036854775807
theorem FewS.fit {s : St} (h : FewS s) : FitS s := by
 obtain ⟨h1, h2, h3, h4, h5, h6, h7⟩ := h
 exact ⟨by omega, by unfold maxLen; omega, h7⟩
theorem bulk_strs : ∀ l : List ByteArray, Rows.uptoBulkAll (strs (H := H) l) = sumT (l.map (·.data.toList))
 | [] => rfl
 | s :: r => by
  have h := bulk_strs r
  unfold strs sumT at h ⊢
  simp only [List.map_cons, List.sum_cons, Rows.uptoBulkAll, Rows.uptoBulk] at h ⊢
  rw [h]
theorem sumT_len : ∀ l : List Tx, l.length ≤ sumT l
 | [] => Nat.le_refl _
 | t :: r => by
  have := sumT_len r
  unfold sumT at this ⊢
  simp only [List.map_cons, List.sum_cons, List.length_cons]
  omega
theorem open_texts {fuel : Nat} {v : Value} {x : DataW H × List MemPlace} (h : DataW.trod enc Tryz.prog W 0 (fun _ => true) true fuel 34 [v] = some x) (hb : Rows.uptoBulk x.1 ≤ 1048576) :
  ∃ A n c l, v = .slice A n c ∧ SS W A n l ∧ sumT l ≤ 1048576 ∧ n ≤ c := by
 rcases open_strings Tryz.underlying34 Tryz.underlying9 cellsStr h with ⟨hcs, _⟩ | ⟨a, len, cap, ss, hcs, _, hl, hm, hz, hx, hcell, hsz⟩
 ·injection hcs with e1
  exact ⟨none, 0, 0, [], e1, ⟨rfl, fun j u hu => by simp at hu, Nat.zero_le _⟩, Nat.zero_le _, Nat.le_refl _⟩
 ·injection hcs with e1
  have hz' : ss.length = cap := by simpa using hz
  subst hx
  simp only [Rows.uptoBulk, bulk_strs] at hb
  have hb1 : sumT ((ss.take len).map (·.data.toList)) ≤ 1048576 := by omega
  have hb2 := sumT_len ((ss.take len).map (·.data.toList))
  rw [List.length_map, List.length_take] at hb2
  refine ⟨some a, len, cap, (ss.take len).map (·.data.toList), e1, ⟨by rw [List.length_map, List.length_take]; omega, fun j u hu => ?_, by omega⟩, hb1, hl⟩
  rw [List.getElem?_map, List.getElem?_map, List.getElem?_take] at hu
  by_cases hj : j < len
  ·rw [if_pos hj] at hu
   have hjs : j < ss.length := by omega
   rw [List.getElem?_eq_getElem hjs] at hu
   simp only [Option.map_some, Option.some.injEq] at hu
   have hc := hcell j hjs
   rw [List.getD_eq_getElem?_getD, List.getElem?_eq_getElem hjs] at hc
   obtain ⟨b, off, spot⟩ := a
   have hspot : spot = none := by
    have := World.cell?_spot (hcell 0 (by omega))
    simpa [Addr.add] using this
   subst hspot
   refine ⟨b, off, rfl, ?_⟩
   rw [Go.WideShapes.add_plain] at hc
   rw [hc, ← hu]
   show some (Value.string ss[j]) = some (vS ss[j].data.toList)
   unfold vS
   rw [ba_of]
  ·rw [if_neg hj] at hu; simp at hu
theorem open_nums {fuel : Nat} {v : Value} {x : DataW H × List MemPlace} (h : DataW.trod enc Tryz.prog W 0 (fun _ => true) true fuel 35 [v] = some x) (hb : Rows.uptoBulk x.1 ≤ 1048576) :
  ∃ A n c l, v = .slice A n c ∧ K.SI W .i64 A n l ∧ n ≤ 1048576 ∧ n ≤ c ∧ ∀ a ∈ l, -9223372036854775808 ≤ a ∧ a ≤ 9223372036854775807 := by
 rcases open_ints Tryz.underlying35 Tryz.underlying3 cellsInt h with ⟨hcs, _⟩ | ⟨a, len, cap, zs, hcs, _, hl, hm, hz, hx0, hcell, hwz⟩
 ·injection hcs with e1
  exact ⟨none, 0, 0, [], e1, K.SI.nil W .i64 none, Nat.zero_le _, Nat.le_refl _, fun y hy => by simp at hy⟩
 ·injection hcs with e1
  have hz' : zs.length = cap := by simpa using hz
  subst hx0
  have h3 := bulks.slice_le (H := H) (lits .i64 (zs.take len)) (lits .i64 (zs.drop len))
  have h4 : (lits (H := H) .i64 (zs.take len)).length + (lits (H := H) .i64 (zs.drop len)).length + 1 ≤ 1048576 := Nat.le_trans h3 hb
  simp only [lits, List.length_map, List.length_take, List.length_drop] at h4
  refine ⟨some a, len, cap, zs.take len, e1, ⟨by rw [List.length_take]; omega, by show len * 8 ≤ _; omega, fun j u hu => ?_⟩, by omega, hl, fun y hy => wf_i64 (hwz y (List.mem_of_mem_take hy))⟩
  rw [List.getElem?_map, List.getElem?_take] at hu
  by_cases hj : j < len
  ·rw [if_pos hj] at hu
   obtain ⟨b, off, rfl, hc2⟩ := ints_at hcell (by omega)
   refine ⟨b, off, rfl, ?_⟩
   rw [hc2 j (by omega), ← hu, List.getD_eq_getElem?_getD, List.getElem?_eq_getElem (by omega)]
   rfl
  ·rw [if_neg hj] at hu; simp at hu
instance : Inhabited St := ⟨⟨[], [], [], [], []⟩⟩
set_option maxRecDepth 100000 in
theorem open_step {fuel : Nat} {cs : List Value} {a : Addr} {x : DataW H × List MemPlace} (hc : W.cells? 0 a 6 = some cs) (h : DataW.trod enc Tryz.prog W 0 (fun _ => true) true fuel 37 cs = some x) (hb : Rows.uptoBulk x.1 ≤ 1048576) :
  ∃ p b o, a = ⟨b, o, none⟩ ∧ StepAt W b o p ∧ FewS p.2 ∧ b < W.heap.size := by
 obtain ⟨_, hlen, hcell⟩ := World.cells?_some hc
 obtain ⟨xs, n, _, hx, _, hxl, hg⟩ := DataW.trod_struct Tryz.underlying37 h
 match xs, hxl, cs, hlen with
 | [y0, y1, y2, y3, y4, y5], _, [c0, c1, c2, c3, c4, c5], _ =>
  have g0 : DataW.trod enc Tryz.prog W 0 (fun _ => true) true n 3 [c0] = some y0 := by simpa [cellsInt] using hg 0 _ rfl
  have g1 : DataW.trod enc Tryz.prog W 0 (fun _ => true) true n 9 [c1] = some y1 := by simpa [cellsStr] using hg 1 _ rfl
  have g2 : DataW.trod enc Tryz.prog W 0 (fun _ => true) true n 9 [c2] = some y2 := by simpa [cellsStr] using hg 2 _ rfl
  have g3 : DataW.trod enc Tryz.prog W 0 (fun _ => true) true n 34 [c3] = some y3 := by simpa [cellsStrs] using hg 3 _ rfl
  have g4 : DataW.trod enc Tryz.prog W 0 (fun _ => true) true n 9 [c4] = some y4 := by simpa [cellsStr] using hg 4 _ rfl
  have g5 : DataW.trod enc Tryz.prog W 0 (fun _ => true) true n 35 [c5] = some y5 := by simpa [cellsInts] using hg 5 _ rfl
  rw [hx] at hb
  simp only [List.map_cons, List.map_nil, Rows.uptoBulk, Rows.uptoBulkAll] at hb
  obtain ⟨i0, e0, -, -⟩ := DataW.trod_int Tryz.underlying3 g0
  obtain ⟨s1, e1, rfl, -⟩ := DataW.trod_string Tryz.underlying9 g1
  obtain ⟨s2, e2, rfl, -⟩ := DataW.trod_string Tryz.underlying9 g2
  obtain ⟨s4, e4, rfl, -⟩ := DataW.trod_string Tryz.underlying9 g4
  obtain ⟨A, n3, k3, l3, rfl, hS, hs3, -⟩ := open_texts g3 (by omega)
  obtain ⟨A5, n5, k5, l5, rfl, hI, hn5, -, hi5⟩ := open_nums g5 (by omega)
  injection e0 with e0
  injection e1 with e1
  injection e2 with e2
  injection e4 with e4
  subst e0 e1 e2 e4
  simp only [Rows.uptoBulk] at hb
  have q0 := hcell 0 (by omega)
  have q1 := hcell 1 (by omega)
  have q2 := hcell 2 (by omega)
  have q3 := hcell 3 (by omega)
  have q4 := hcell 4 (by omega)
  have q5 := hcell 5 (by omega)
  obtain ⟨b, o, spot⟩ := a
  have hspot : spot = none := by
   have := World.cell?_spot (q0.trans (by rfl : _ = some _))
   simpa [Addr.add] using this
  subst hspot
  rw [Go.WideShapes.add_plain] at q0 q1 q2 q3 q4 q5
  have hlt := World.block_lt_of_cell? W _ (q0.trans (by rfl : _ = some (Value.int .i64 i0)))
  have hl5 := hI.len
  have hl3 := hS.len
  have hl3b := sumT_len l3
  refine ⟨(i0, ⟨s1.data.toList, s2.data.toList, l3, s4.data.toList, l5⟩), b, o, rfl, ⟨A, n3, k3, A5, n5, k5, q0, ?_, ?_, q3, ?_, q5, hS, hI⟩, ⟨?_, ?_, ?_, hs3, by show l3.length ≤ _; omega, by show l5.length ≤ _; omega, hi5⟩, hlt⟩
  ·rw [ba_of]; exact q1
  ·rw [ba_of]; exact q2
  ·rw [ba_of]; exact q4
  ·show s1.data.toList.length ≤ _; omega
  ·show s2.data.toList.length ≤ _; omega
  ·show s4.data.toList.length ≤ _; omega
set_option maxRecDepth 100000 in
theorem open_steps {v : Value} {d : DataW H} {p : List MemPlace} (hv : Value.okWide Tryz.prog W .any base 23 v) (h : DataW.Trod enc Tryz.prog W 0 (fun _ => true) true 23 v d p) (hb : Rows.uptoBulk d ≤ 1048576) :
  ∃ A n c l, v = .slice A n c ∧ TS W A n l ∧ (∀ p ∈ l, FewS p.2) ∧ n ≤ 1048576 ∧ n ≤ c := by
 obtain ⟨a, len, cap, rfl⟩ := okWide_slice Tryz.underlying23 hv
 obtain ⟨fuel, hf⟩ := h
 rcases open_slice Tryz.underlying23 hf with ⟨hcs, _⟩ | ⟨a2, len2, cap2, m, n, D, Pl, hcs, _, hl, hm, hmm, hx, hi⟩
 ·simp [Value.cells] at hcs
  obtain ⟨rfl, rfl, rfl⟩ := hcs
  exact ⟨none, 0, 0, [], rfl, ⟨rfl, by omega, fun i p hp => by simp at hp⟩, fun y hy => by simp at hy, by omega, by omega⟩
 ·simp [Value.cells] at hcs
  obtain ⟨rfl, rfl, rfl⟩ := hcs
  rw [if_pos rfl] at hmm
  subst hmm
  simp only [Prod.mk.injEq] at hx
  obtain ⟨rfl, -⟩ := hx
  have h3 := bulks.slice_le (H := H) ((List.range len).map D) ((List.range (m - len)).map fun j => D (len + j))
  have h4 := bulks.slice_elems (H := H) ((List.range len).map D) ((List.range (m - len)).map fun j => D (len + j))
  rw [List.length_map, List.length_map, List.length_range, List.length_range] at h3
  have hone : ∀ i, i < len → ∃ q : (Int × St) × Nat × Nat, a2.add (i * 6) = ⟨q.2.1, q.2.2, none⟩ ∧ StepAt W q.2.1 q.2.2 q.1 ∧ FewS q.1.2 ∧ q.2.1 < W.heap.size := fun i hlt => by
   obtain ⟨cs', h1, h2⟩ := hi i (by omega)
   rw [cellsStep] at h1
   have h5 : Rows.uptoBulk (D i) ≤ _ := bulks.part_le (l := (List.range len).map D) (List.mem_map.2 ⟨i, List.mem_range.2 hlt, rfl⟩)
   obtain ⟨p, b, o, g1, g2, g3, g4⟩ := open_step h1 h2 (by show Rows.uptoBulk (D i) ≤ _; omega)
   exact ⟨(p, b, o), g1, g2, g3, g4⟩
  obtain ⟨f, hf2⟩ := choose_lt hone
  refine ⟨some a2, len, m, (List.range len).map fun i => (f i).1, rfl, ⟨by simp, by omega, fun i p hp => ?_⟩, fun y hy => ?_, by omega, hl⟩
  ·rw [List.getElem?_map] at hp
   obtain ⟨j, hj, rfl⟩ := Option.map_eq_some_iff.1 hp
   obtain ⟨hj1, hj2⟩ := List.getElem?_eq_some_iff.1 hj
   rw [List.getElem_range] at hj2
   subst hj2
   rw [List.length_range] at hj1
   obtain ⟨g1, g2, g3, g4⟩ := hf2 i hj1
   have e0 := (hf2 0 (by omega)).1
   rw [Nat.zero_mul] at e0
   unfold Addr.add at e0
   rw [if_pos rfl] at e0
   rw [e0, Addr.add_lit] at g1
   injection g1 with g1 g5
   exact ⟨(f 0).2.1, (f 0).2.2, by rw [e0], by rw [g1, g5]; exact g2, by rw [g1]; exact g4⟩
  ·obtain ⟨i, hi2, rfl⟩ := List.mem_map.1 hy
   exact (hf2 i (List.mem_range.1 hi2)).2.2.1
theorem part_sized {ts : List TypeId} {ds : List (DataW H)} (hs : (DataW.weightsEach Tryz.prog ts ds).all (· ≤ reachBytes) = true) {j : Nat} {t : TypeId} {d : DataW H} (ht : ts[j]? = some t) (hd : ds[j]? = some d) : ∀ n ∈ d.weights Tryz.prog t, n ≤ reachBytes := fun n hn => by
 have := List.all_eq_true.1 hs _ (DataW.weights_mem_each ht hd n hn)
 simpa using this
end
end Go.Proofs.YtoofgblmpjndjaaGreatDoor.Shs
set_option linter.unusedVariables false
set_option linter.unusedSimpArgs false
namespace Go.Proofs.YtoofgblmpjndjaaGreatDoor.Shs
open Go.RowKit Go.Shelf Scr

noncomputable def laidL : List (String × DataW Unit) := Rows.scriptParsesRow.laid
theorem m_pow : ("internal/strconv.uint64pow10", Rows.laid_internal_strconv_uint64pow10) ∈ laidL := .tail _ (.tail _ (.head _))
theorem m_acc : ("unicode/utf8.acceptRanges", Rows.laid_unicode_utf8_acceptRanges) ∈ laidL := .tail _ (.tail _ (.tail _ (.head _)))
theorem m_fst : ("unicode/utf8.first", Rows.laid_unicode_utf8_first) ∈ laidL := .tail _ (.tail _ (.tail _ (.tail _ (.tail _ (.tail _ (.head _))))))
theorem d_pow : (Rows.laid_internal_strconv_uint64pow10 : DataW Unit) = Lib.tabData .u64 Lib.pow10Tab := by kernel_rfl
theorem d_acc : (Rows.laid_unicode_utf8_acceptRanges : DataW Unit) = Lib.acceptData := by kernel_rfl
theorem d_fst : (Rows.laid_unicode_utf8_first : DataW Unit) = Lib.firstData := Pinned.utf8First_eq
def ren8 : Ren := ⟨fun x => x, fun | 5 => 5 | 119 => 172 | 138 => 174 | 139 => 175 | x => x, fun | 3 => 1 | 4 => 2 | x => x⟩
theorem u8types : U8Types Tryz.prog ren8 := { t5 := Tryz.underlying5, t119 := Tryz.underlying172, t138 := Tryz.underlying174, t139 := Tryz.underlying175 }
theorem u8extra : U8Extra Tryz.prog ren8 := { n3 := by kernel_rfl, n4 := by kernel_rfl, y3 := by kernel_rfl, y4 := by kernel_rfl, c5 := by kernel_rfl, c119 := by kernel_rfl, c138 := by kernel_rfl }
theorem tabIs_of_reads {P : Program} {W : World} {name : String} {k : IntKind} {zs : List Int} {g : Nat} {t e : TypeId} {n : Nat}
  (hg : P.globalNamed name = some g) (hty : (P.globals[g]?).map (·.type) = some t) (ht : P.underlying t = some (.array n e)) (he : P.underlying e = some (.int k)) (hce : P.cellsOf e = 1) (hct : P.cellsOf t = n)
  (h : Lib.VarReads P W name (Lib.tabData k zs)) : Lib.TabIs P W name k zs := by
 obtain ⟨g', t', cs, fuel, p, hg', ht', hvar, hd⟩ := h
 obtain rfl := Option.some.inj (hg.symm.trans hg')
 obtain rfl := Option.some.inj (hty.symm.trans ht')
 unfold Lib.TabIs
 rw [hvar, ← Lib.cells_of_tab ht he hce hct hd]
theorem vars_of {W : World} (hL : laidMetH Tryz.prog laidL W) (hsh : W.ShapedOpen Tryz.prog) : Vars W := by
 rw [MakeChecks.laidMetH_plain _ _ _ (by kernel_rfl)] at hL
 have hpow := Lib.laidMet.reads hL m_pow
 have hacc := Lib.laidMet.reads hL m_acc
 have hfst := Lib.laidMet.reads hL m_fst
 rw [d_pow] at hpow
 rw [d_acc] at hacc
 rw [d_fst] at hfst
 have hutf : Lib.Utf8Tabs 1 2 W := utf8Tabs_of_readsT u8types u8extra hfst hacc
 have htab : Lib.TabIs Tryz.prog W "internal/strconv.uint64pow10" .u64 Lib.pow10Tab := tabIs_of_reads (g := 3) (by kernel_rfl) (by kernel_rfl) Tryz.underlying214 Tryz.underlying167 (by kernel_rfl) (by kernel_rfl) hpow
 refine ⟨?_, ?_, hutf, htab⟩
 ·have h := World.block_lt_of_cell? W _ (htab.cell gPow 0 (by decide))
  have h2 : vb ≤ 3 + 1 := by decide
  exact Nat.le_trans h2 h
 ·exact cell_of_shapedOpen_int (zero := #[.int .i64 0]) hsh (of_decide_eq_true (by kernel_rfl)) (by kernel_rfl) rfl (by kernel_rfl) (by kernel_rfl) Tryz.underlying3
theorem witness_row_shaped {H : Type} {enc : TypeId × Value → H} {C : Checked} {os : Os} {f : FuncId} {fn : Func} {s : OpenSpec} {conds : List PathCond} {apart : Bool} {laid : List (String × DataW Unit)} (modest : Bool) (w0 : World) (args : Array Value) (hos : w0.os = os)
  (hsh : (w0.forCall (fun _ _ => 0) ⟨#[], args, []⟩).Shaped C.prog)
  (hok : Input.okWideB C.prog (w0.forCall (fun _ _ => 0) ⟨#[], args, []⟩) f ⟨#[], args, []⟩ = true)
  (hrow : s.preRow enc C.prog fn conds apart laid (w0.forCall (fun _ _ => 0) ⟨#[], args, []⟩).memory args) :
  ∃ (w : World) (tape : Tape) (i : Input), w.os = os ∧ (w.forCall tape i).Shaped C.prog ∧ i.vars = [] ∧ Input.okWide C.prog (w.forCall tape i) .any w.heap.size f i ∧
   s.preRow enc C.prog fn conds apart laid (w.forCall tape i).memory i.args ∧ ({ modest := modest } : Assume).holds C.prog (lone (Frame.enter C.prog f i.args .normal) [] (w.forCall tape i)) :=
 ⟨w0, fun _ _ => 0, ⟨#[], args, []⟩, hos, hsh, (Input.okWide_of_okWideB (base := 0) hok).1, (Input.okWide_of_okWideB hok).2, hrow, by
  simp only [Assume.holds]
  exact ⟨by simp, by simp, fun _ => Modest.zero, by simp, by simp⟩⟩
end Go.Proofs.YtoofgblmpjndjaaGreatDoor.Shs
set_option linter.unusedVariables false
set_option linter.unusedSimpArgs false
namespace Go.Proofs.YtoofgblmpjndjaaGreatDoor.Scr
open Go.RowKit K Go.Lib

theorem step_args {w : List Tx} {s : St} (h : stepM w = some s) : ∀ a ∈ s.args, -999999999 ≤ a ∧ a ≤ 999999999 := by
 unfold stepM at h
 simp only at h
 split at h
 ·split at h
  ·injection h with h; subst h; intro a ha; cases ha
  ·cases h
 ·split at h
  ·split at h
   ·split at h
    ·cases h
    ·rename_i hnum
     split at h
     ·injection h with h; subst h
      intro a ha
      rw [List.mem_cons] at ha
      rcases ha with rfl | ha
      ·have := fmtN_le (w.getD 3 []); omega
      ·exact nums_bd hnum a ha
     ·cases h
   ·cases h
  ·split at h
   ·split at h
    ·split at h
     ·cases h
     ·rename_i hnum
      split at h
      ·injection h with h; subst h
       exact nums_bd hnum
      ·cases h
    ·cases h
   ·split at h
    ·split at h
     ·cases h
     ·rename_i hnum
      split at h
      ·injection h with h; subst h
       exact nums_bd hnum
      ·cases h
    ·cases h
theorem words_len (t : Tx) : (wordsM t).length ≤ t.length := by
 have h1 := fields_len t []
 have h2 : (wordsM t).length ≤ (fieldsM t []).length := List.Sublist.length_le (List.takeWhile_sublist _)
 simp only [List.length_nil] at h1
 omega
theorem step_fit {t : Tx} {s : St} (ht : t.length ≤ 8192) (h : stepM (wordsM t) = some s) : FitS s := by
 have h1 := stepM_srcs h
 have h2 := stepM_args h
 have h3 := words_len t
 refine ⟨by omega, by have := (step_small h).1; unfold maxLen; omega, fun a ha => by have := step_args h a ha; omega⟩
theorem lines_fit : ∀ {a : List Tx} {n : Int} {out known : _} {out' : List (Int × St)}, (∀ t ∈ a, t.length ≤ 8192) → (∀ p ∈ out, FitS p.2) → linesP a n out known = .ok out' → ∀ p ∈ out', FitS p.2
 | [], n, out, known, out', _, ho, h => by
  injection h with h
  subst h
  exact ho
 | t :: r, n, out, known, out', ha, ho, h => by
  rw [linesP_cons] at h
  split at h
  ·exact lines_fit (fun x hx => ha x (by simp [hx])) ho h
  ·split at h
   ·cases h
   ·rename_i s hs
    split at h
    ·cases h
    ·split at h
     ·refine lines_fit (fun x hx => ha x (by simp [hx])) (fun p hp => ?_) h
      rw [List.mem_append, List.mem_singleton] at hp
      rcases hp with hp | rfl
      ·exact ho p hp
      ·exact step_fit (ha t (by simp)) hs
     ·cases h
theorem parse_fit {t : Tx} {l : List (Int × St)} (h : parseM t = .ok l) : ∀ p ∈ l, FitS p.2 := by
 have hl := (parseM_len h).1
 unfold parseM at h
 rw [if_neg (by omega)] at h
 exact lines_fit (fun x hx => by have := (lines_few t []).2 x hx; simp at this; omega) (fun p hp => by cases hp) h
end Go.Proofs.YtoofgblmpjndjaaGreatDoor.Scr
set_option linter.unusedVariables false
set_option linter.unusedSimpArgs false
namespace Go.Proofs.YtoofgblmpjndjaaGreatDoor.Scr
open Go.RowKit K Go.Lib Go.Shelf

theorem flat_at {α β : Type} {f : α → List β} {l : List α} {i j : Nat} {a : α} (h : l[i]? = some a) (hf : ∀ x, (f x).length = 6) (hj : j < 6) : (l.flatMap f)[i * 6 + j]? = (f a)[j]? := by
 induction l generalizing i with
 | nil => simp at h
 | cons x r ih =>
  rw [List.flatMap_cons]
  cases i with
  | zero =>
   have : x = a := by simpa using h
   subst this
   rw [List.getElem?_append_left (by rw [hf]; omega), Nat.zero_mul, Nat.zero_add]
  | succ i =>
   have h2 : r[i]? = some a := by simpa using h
   rw [List.getElem?_append_right (by rw [hf]; omega), hf, show (i + 1) * 6 + j - 6 = i * 6 + j by omega]
   exact ih h2
theorem TO.steps {w : World} {base k c : Nat} {A : Option Addr} {R : List SRow} (h : TO w base (.slice A k c) k R) (hk : k ≤ 1099511627776) (hs : ∀ r ∈ R, r.n ≤ 8796093022000 ∧ r.m * 8 ≤ 140737488351232) : TS w A k (R.map SRow.p) := by
 refine ⟨by rw [List.length_map, h.2.1], hk, fun i p hp => ?_⟩
 rw [List.getElem?_map] at hp
 obtain ⟨r, hr, rfl⟩ := Option.map_eq_some_iff.1 hp
 have hm := List.mem_of_getElem? hr
 have hi : i < R.length := (List.getElem?_eq_some_iff.1 hr).1
 rcases h.1.2 with ⟨e, h0⟩ | ⟨g, cap, cur, e, -, hg, -⟩
 ·have := h.2.1; omega
 ·injection e with e1 e2 e3
  subst e1 e3
  have hc : ∀ j v, j < 6 → r.cells.toList[j]? = some v → w.cell? ⟨g, 0 + i * 6 + j, none⟩ = some v := fun j v hj hv => by
   have hx : (R.flatMap fun r => r.cells.toList)[i * 6 + j]? = some v := by
    rw [flat_at hr (fun x => rfl) hj]
    exact hv
   have h2 := h.1.cells (g := g) rfl (i * 6 + j) v hx
   rw [Addr.add_lit] at h2
   rw [Nat.zero_add]
   rw [Nat.zero_add] at h2
   exact h2
  refine ⟨g, 0, rfl, ⟨r.A, r.n, r.c, r.A2, r.m, r.c2, hc 0 _ (by omega) rfl, hc 1 _ (by omega) rfl, hc 2 _ (by omega) rfl, hc 3 _ (by omega) rfl, hc 4 _ (by omega) rfl, hc 5 _ (by omega) rfl, SS.of_own (h.2.2 r hm).1 (hs r hm).1, SI.of_own (h.2.2 r hm).2 (hs r hm).2⟩, (Array.getElem?_eq_some_iff.1 hg).1⟩
def StepsP (w : World) (l : List (Int × St)) (e : Ending) (w' : World) : Prop := Below w.heap.size w w' ∧ ∃ A n c R, e = .returned (.slice A n c) ∧ TO w' w.heap.size (.slice A n c) n R ∧ R.map SRow.p = l
set_option maxRecDepth 20000 in
set_option maxHeartbeats 8000000 in
theorem steps_any {A : Option Addr} {n c : Nat} {l : List (Int × St)} (w : World) (H : TS w A n l) : Calls Tryz.prog 13 #[.slice A n c] w (StepsP w l) := by
 have HT := Lib.hid H
 have HLN := Lib.hid H.len
 have HSZ := Lib.hid H.sz
 clear H
 go_enter Tryz.func13, Tryz.ntmps13
 go_wp2
 go_loopw [3, 8] (fun s3 s8 wx => ∃ (k : Nat) (A1 : Option Addr) (c1 : Nat) (R : List SRow), k ≤ n ∧ s3 = .slice A1 k c1 ∧ s8 = .int .i64 (k : Int) ∧ Hid (TO wx w.heap.size (.slice A1 k c1) k R) ∧ Hid (R.map SRow.p = l.take k) ∧ Hid (Below w.heap.size w wx)) (fun _ s8 _ => n - (intOf s8).toNat)
 case atStart => exact ⟨0, none, 0, [], Nat.zero_le _, rfl, rfl, TO.nil _ _, rfl, Below.refl _ _⟩
 case round =>
  obtain ⟨k, A1, c1, R, hk, rfl, rfl, HTO, HRP, HB⟩ := hrel
  by_cases hlt : k < n
  ·have HLT := Lib.hid hlt
   obtain ⟨p, hp⟩ : ∃ p, l[k]? = some p := ⟨l[k]'(by rw [HLN.out]; exact hlt), List.getElem?_eq_getElem _⟩
   obtain ⟨b, o, rfl, ⟨As, ns, cs, Aa, na, ca, h0, h1, h2, h3, h4, h5, hss, hsi⟩, hbl⟩ := (HT.out.below HB.out).at' k p hp
   have d0 : decide ((k : Int) < (n : Int)) = true := decide_eq_true (by omega)
   have e0 : decide (k < n) = true := decide_eq_true hlt
   have l0 : (k : Int) < n := by omega
   have z0 : (0 : Int) ≤ k := by omega
   have HU : Hid (wrap64 ((k : Int) + 1) = ((k + 1 : Nat) : Int)) := by show _ = _; have := HSZ.out; rw [IntWalk.wrap64_in _ (by omega)]; rfl
   have HTK : Hid (l.take (k + 1) = l.take k ++ [p]) := by show _ = _; rw [List.take_add_one, hp]; rfl
   have HSS := Lib.hid hss
   have HSI := Lib.hid hsi
   obtain ⟨zo, hzo⟩ : ∃ z, ba p.2.op = z := ⟨_, rfl⟩
   obtain ⟨zd, hzd⟩ : ∃ z, ba p.2.dst = z := ⟨_, rfl⟩
   obtain ⟨zf, hzf⟩ : ∃ z, ba p.2.file = z := ⟨_, rfl⟩
   rw [hzo] at h1
   rw [hzd] at h2
   rw [hzf] at h4
   have HZO := Lib.hid hzo
   have HZD := Lib.hid hzd
   have HZF := Lib.hid hzf
   obtain ⟨WA, hWA⟩ : ∃ x, wr.alloc (.cells #[.int .i64 0, .string ⟨#[]⟩, .string ⟨#[]⟩, .slice none 0 0, .string ⟨#[]⟩, .slice none 0 0] 37) = x := ⟨_, rfl⟩
   have HXA : Hid (WA.heap[wr.heap.size]? = some (.cells st0 37 (0, 0))) := by rw [← hWA]; exact heap_alloc_new wr _
   have HBA : Hid (Below wr.heap.size wr WA) := by rw [← hWA]; exact (Below.refl _ _).alloc (Nat.le_refl _) _
   clear hp hss hsi hbl hlt hk hzo hzd hzf
   go_wp2_with (first | (refine wpList_store_rowG rfl 37 (.tmp 5) (.tmp 14) rfl wr.heap.size #[.int .i64 p.1, .string zo, .string zd, .slice As ns cs, .string zf, .slice Aa na ca] rfl rfl 37 st0 HXA.out infoSt rfl (by simp [Value.oneCell']) ?_; intro W2 hr2 hg2; (have HR2 := Lib.hid hr2); (have HB2 : Hid (Below wr.heap.size wr W2) := HBA.out.grown hg2 HBA.out.size (fun q e => by injection e with e; omega)); clear hr2 hg2; (have x3 : W2.cell? ⟨wr.heap.size, 3, none⟩ = some (.slice As ns cs) := Ard.row_cell HR2.out 3); (have HL2 : Hid (wr.heap.size + 1 ≤ W2.heap.size) := (Array.getElem?_eq_some_iff.1 HR2.out).1); obtain ⟨V3, hV3⟩ : ∃ x, W2.alloc (.cells #[] 9) = x := ⟨_, rfl⟩; (have HO3 : Hid (V3.ownsRow (wr.heap.size + 1) 9 1 (.slice (some ⟨W2.heap.size, 0, none⟩) 0 0) 0 []) := (by rw [← hV3]; exact own_lower (own_lit W2 [] 9 (Nat.zero_le _)) HL2.out)); (have HB3 : Hid (Below wr.heap.size wr V3) := (by rw [← hV3]; exact HB2.out.alloc HB2.out.size _)); (have HR3 : Hid (V3.heap[wr.heap.size]? = some (.cells #[.int .i64 p.1, .string zo, .string zd, .slice As ns cs, .string zf, .slice Aa na ca] 37 (0, 0))) := (by rw [← hV3]; exact (Below.heap_alloc _ _ _ (Array.getElem?_eq_some_iff.1 HR2.out).1).trans HR2.out)); (have x33 : V3.cell? ⟨wr.heap.size, 3, none⟩ = some (.slice As ns cs) := Ard.row_cell HR3.out 3); (have HSV := Lib.hid (HSS.out.below HB3.out))) | (at_builtin; refine wpList_append_slS rfl (.tmp 15) (.tmp 17) _ rfl (wr.heap.size + 1) 9 1 16 (.string ⟨#[]⟩) Tryz.underlying34 infoStr rfl (by omega) (.slice (some ⟨W2.heap.size, 0, none⟩) 0 0) 0 [] rfl HO3.out As ns cs (p.2.srcs.map vS) rfl (by rw [List.length_map, HSV.out.len]; omega) HSV.out.sl (by intro u hu; obtain ⟨x, _, rfl⟩ := List.mem_map.1 hu; rfl) (by have := HSV.out.sz; unfold maxLen; omega) (by have := HSV.out.sz; omega) (Array.getElem?_eq_some_iff.1 HR3.out).1 ?_; intro A3 c3 V4 _ ho hg0; (have hg : V3.grownBy V4 (some W2.heap.size) := hg0); clear hg0; (have HP4 : Hid (V4.ownsRow (wr.heap.size + 1) 9 1 (.slice A3 ns c3) ns (p.2.srcs.map vS)) := (by have h := ho; rw [Nat.zero_add] at h; exact h)); (have hk := hg.block wr.heap.size (Array.getElem?_eq_some_iff.1 HR3.out).1 (by intro e; injection e with e; have := HL2.out; omega)); (have HR4 := Lib.hid (hk.trans HR3.out)); (have HB4 : Hid (Below wr.heap.size wr V4) := HB3.out.grown hg HB3.out.size (fun q e => by injection e with e; have := HL2.out; omega)); clear ho hg hk x33; (have x34 : V4.cell? ⟨wr.heap.size, 3, none⟩ = some (.slice As ns cs) := Ard.row_cell HR4.out 3); (have f34 : V4.frozen? ⟨wr.heap.size, 3, none⟩ = false := Ard.row_frozen HR4.out 3); obtain ⟨V5, hV5⟩ : ∃ x, V4.setCell ⟨wr.heap.size, 3, none⟩ (.slice A3 ns c3) = x := ⟨_, rfl⟩; (have HR5 : Hid (V5.heap[wr.heap.size]? = some (.cells #[.int .i64 p.1, .string zo, .string zd, .slice A3 ns c3, .string zf, .slice Aa na ca] 37 (0, 0))) := (by rw [← hV5]; exact heap_setCell_same V4 wr.heap.size 3 _ _ _ HR4.out)); (have HP5 : Hid (V5.ownsRow (wr.heap.size + 1) 9 1 (.slice A3 ns c3) ns (p.2.srcs.map vS)) := (by rw [← hV5]; exact ownsRow_setCell_below HP4.out (a := ⟨wr.heap.size, 3, none⟩) (by show wr.heap.size < wr.heap.size + 1; omega) _)); (have HB5 : Hid (Below wr.heap.size wr V5) := (by rw [← hV5]; exact HB4.out.setCell (p := ⟨wr.heap.size, 3, none⟩) (Nat.le_refl _) _)); (have HL5 : Hid (wr.heap.size + 1 ≤ V5.heap.size) := (Array.getElem?_eq_some_iff.1 HR5.out).1); obtain ⟨V6, hV6⟩ : ∃ x, V5.alloc (.cells #[] 3) = x := ⟨_, rfl⟩; (have HO6 : Hid (V6.ownsRow (wr.heap.size + 1) 3 1 (.slice (some ⟨V5.heap.size, 0, none⟩) 0 0) 0 []) := (by rw [← hV6]; exact own_lower (own_lit V5 [] 3 (Nat.zero_le _)) HL5.out)); (have HB6 : Hid (Below wr.heap.size wr V6) := (by rw [← hV6]; exact HB5.out.alloc HB5.out.size _)); (have HR6 : Hid (V6.heap[wr.heap.size]? = some (.cells #[.int .i64 p.1, .string zo, .string zd, .slice A3 ns c3, .string zf, .slice Aa na ca] 37 (0, 0))) := (by rw [← hV6]; exact (Below.heap_alloc _ _ _ (Array.getElem?_eq_some_iff.1 HR5.out).1).trans HR5.out)); (have HP6 : Hid (V6.ownsRow (wr.heap.size + 1) 9 1 (.slice A3 ns c3) ns (p.2.srcs.map vS)) := (by rw [← hV6]; exact HP5.out.alloc _)); (have x56 : V6.cell? ⟨wr.heap.size, 5, none⟩ = some (.slice Aa na ca) := Ard.row_cell HR6.out 5); (have HSW := Lib.hid (HSI.out.below HB6.out (Nat.le_refl _)))) | (at_builtin; refine wpList_append_slS rfl (.tmp 20) (.tmp 22) _ rfl (wr.heap.size + 1) 3 1 8 (.int .i64 0) Tryz.underlying35 infoInt rfl (by omega) (.slice (some ⟨V5.heap.size, 0, none⟩) 0 0) 0 [] rfl HO6.out Aa na ca (p.2.args.map (.int .i64)) rfl (by rw [List.length_map, HSW.out.len]; omega) HSW.out.sl (by intro u hu; obtain ⟨x, _, rfl⟩ := List.mem_map.1 hu; rfl) (by have := HSW.out.big; unfold maxLen; omega) (by have := HSW.out.big; omega) (Array.getElem?_eq_some_iff.1 HR6.out).1 ?_; intro A4 c4 V7 _ ho hg0; (have hg : V6.grownBy V7 (some V5.heap.size) := hg0); clear hg0; (have HN7 : Hid (V7.ownsRow (wr.heap.size + 1) 3 1 (.slice A4 na c4) na (p.2.args.map (.int .i64))) := (by have h := ho; rw [Nat.zero_add] at h; exact h)); (have hk := hg.block wr.heap.size (Array.getElem?_eq_some_iff.1 HR6.out).1 (by intro e; injection e with e; have := HL5.out; omega)); (have HR7 := Lib.hid (hk.trans HR6.out)); (have HB7 : Hid (Below wr.heap.size wr V7) := HB6.out.grown hg HB6.out.size (fun q e => by injection e with e; have := HL5.out; omega)); (have HP7 := Lib.hid (HP6.out.kept hg (own_apart HP6.out HO6.out (by decide)))); clear ho hg hk x56 x34 f34; (have x57 : V7.cell? ⟨wr.heap.size, 5, none⟩ = some (.slice Aa na ca) := Ard.row_cell HR7.out 5); (have f57 : V7.frozen? ⟨wr.heap.size, 5, none⟩ = false := Ard.row_frozen HR7.out 5); obtain ⟨V8, hV8⟩ : ∃ x, V7.setCell ⟨wr.heap.size, 5, none⟩ (.slice A4 na c4) = x := ⟨_, rfl⟩; (have HR8 : Hid (V8.heap[wr.heap.size]? = some (.cells #[.int .i64 p.1, .string zo, .string zd, .slice A3 ns c3, .string zf, .slice A4 na c4] 37 (0, 0))) := (by rw [← hV8]; exact heap_setCell_same V7 wr.heap.size 5 _ _ _ HR7.out)); (have HP8 : Hid (V8.ownsRow (wr.heap.size + 1) 9 1 (.slice A3 ns c3) ns (p.2.srcs.map vS)) := (by rw [← hV8]; exact ownsRow_setCell_below HP7.out (a := ⟨wr.heap.size, 5, none⟩) (by show wr.heap.size < wr.heap.size + 1; omega) _)); (have HN8 : Hid (V8.ownsRow (wr.heap.size + 1) 3 1 (.slice A4 na c4) na (p.2.args.map (.int .i64))) := (by rw [← hV8]; exact ownsRow_setCell_below HN7.out (a := ⟨wr.heap.size, 5, none⟩) (by show wr.heap.size < wr.heap.size + 1; omega) _)); (have HB8 : Hid (Below wr.heap.size wr V8) := (by rw [← hV8]; exact HB7.out.setCell (p := ⟨wr.heap.size, 5, none⟩) (Nat.le_refl _) _))) | (refine wpList_load_row rfl 37 (.tmp 5) rfl wr.heap.size rfl 37 #[.int .i64 p.1, .string zo, .string zd, .slice A3 ns c3, .string zf, .slice A4 na c4] (0, 0) _ HR8.out Tryz.underlying37 rfl infoSt ?_) | (at_builtin; (have hba : Below wr.heap.size wr (V8.alloc (.cells #[.int .i64 p.1, .string zo, .string zd, .slice A3 ns c3, .string zf, .slice A4 na c4] 37)) := HB8.out.alloc HB8.out.size _); (have HT9 := Lib.hid (HTO.out.below hba)); (have HW9 : Hid (SRow.own (V8.alloc (.cells #[.int .i64 p.1, .string zo, .string zd, .slice A3 ns c3, .string zf, .slice A4 na c4] 37)) w.heap.size ⟨p, A3, ns, c3, A4, na, c4⟩) := ⟨own_lower (HP8.out.alloc _) (by have := HB.out.size; omega), own_lower (HN8.out.alloc _) (by have := HB.out.size; omega)⟩); (have HBX := Lib.hid (HB.out.trans (hba.mono HB.out.size))); clear hba; refine Jp.wpList_push rfl (.tmp 25) (.tmp 27) _ rfl w.heap.size 37 6 104 (.agg st0) Tryz.underlying23 infoStep rfl (by omega) (.slice A1 k c1) k _ rfl HT9.out.1 V8.heap.size 1 1 [.int .i64 p.1, .string zo, .string zd, .slice A3 ns c3, .string zf, .slice A4 na c4] 37 rfl rfl (heap_alloc_new V8 _) (by simp [Value.oneCell']) (by omega) (by have := HSZ.out; have := HLT.out; unfold maxLen; omega) (by have := HSZ.out; have := HLT.out; omega) (HBX.out.size) _ rfl ?_; intro g cap W9 ho9 hg9 _ hlt9; (have HO9 := Lib.hid ho9); (have HG9 := Lib.hid hg9); clear ho9 hg9 hlt9) | fail)
   have HQ9 : Hid (TO W9 w.heap.size (.slice (some ⟨g, 0, none⟩) (k + 1) cap) (k + 1) (R ++ [⟨p, A3, ns, c3, A4, na, c4⟩])) := HT9.out.more (w0 := w) HW9.out (by show World.ownsRow _ _ _ _ _ _ (_ ++ [.int .i64 p.1, .string (ba p.2.op), .string (ba p.2.dst), .slice A3 ns c3, .string (ba p.2.file), .slice A4 na c4]); rw [HZO.out, HZD.out, HZF.out]; exact HO9.out) HG9.out
   have HB9 : Hid (Below w.heap.size w W9) := HBX.out.grown HG9.out HBX.out.size (fun q e => (HT9.out.1.lt q e).1)
   go_roundw
   case rel => exact ⟨k + 1, some ⟨g, 0, none⟩, cap, _, HLT.out, rfl, by first | rfl | rw [HU.out], HQ9, by show _ = _; rw [List.map_append, HRP.out, HTK.out]; rfl, HB9⟩
   case measure => first | exact meas_by (d := 1) HLT.out (by omega) | (rw [HU.out]; exact meas_by (d := 1) HLT.out (by omega))
  ·obtain rfl : k = n := by omega
   have d0 : decide ((k : Int) < (k : Int)) = false := decide_eq_false (by omega)
   have HRL : Hid (R.map SRow.p = l) := by show _ = _; rw [HRP.out, List.take_of_length_le (by rw [HLN.out]; exact Nat.le_refl _)]
   clear hlt hk
   go_wp2_with fail
   go_ret
   exact ⟨HB.out, A1, k, c1, R, rfl, HTO.out, HRL.out⟩
end Go.Proofs.YtoofgblmpjndjaaGreatDoor.Scr
