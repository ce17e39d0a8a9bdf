/-
  Texts of this claim, joined by program (DefZ, InfN). Walks: deflate's Raw.
-/
import Derived.Test.YtmgbjgjlddifaaaGreatZG20
import Derived.Test.YtmgbjgjlddifaaaGreatZG22
import Derived.Deep.DeepCutAuto
import Derived.Test.YtmgbjgjlddifaaaGreatZG13
set_option linter.unusedVariables false
set_option linter.unusedSimpArgs false
namespace Go.Proofs.YtmgbjgjlddifaaaGreat.Def
open Go.RowKit K Bits Wrt Pfx Bak Lst LawB MapG

def psOf (b : List Int) : List Pc := piecesM b b.length 0
def fixBits (b : List Int) : List Int := putV false 3 3 ++ bodyBits fixL fixD (psOf b)
def dynS (b L D O : List Int) : List Int := putV false 5 3 ++ dynBits L D O (psOf b)
/-- the lengths of the two packed forms, and of the shorter of the first two -/
def lF (b : List Int) : Nat := ((fixBits b).length + 7) / 8
def dynB (b : List Int) : List Int :=
  dynS b (Bld.bldF (litsL (psOf b)) 15) (Bld.bldF (distsL (psOf b)) 15) (Bld.bldF (rowL (Bld.bldF (litsL (psOf b)) 15 ++ Bld.bldF (distsL (psOf b)) 15)) 7)
def lY (b : List Int) : Nat := ((dynB b).length + 7) / 8
/-- the stream of level 1 -/
structure One (b x : List Int) : Prop where
  fix : lF b < (storedB b).length → Pk x false (fixBits b)
  sto : ¬ lF b < (storedB b).length → x = storedB b
theorem One.len {b x : List Int} (h : One b x) : x.length = if lF b < (storedB b).length then lF b else (storedB b).length := by
  split
  · rename_i k; exact (h.fix k).len
  · rename_i k; rw [h.sto k]
theorem One.uniq {b x y : List Int} (h : One b x) (k : One b y) : x = y := by
  by_cases e : lF b < (storedB b).length
  · exact (h.fix e).uniq (k.fix e)
  · rw [h.sto e, k.sto e]
/-- which stream it is -/
structure Det (b : List Int) (level : Nat) (x : List Int) : Prop where
  d1 : level = 1 → One b x
  d2 : level = 2 → (lY b < (if lF b < (storedB b).length then lF b else (storedB b).length) → Pk x false (dynB b)) ∧ (¬ lY b < (if lF b < (storedB b).length then lF b else (storedB b).length) → One b x)
/-- what Raw's stream is -/
structure Str (b : List Int) (level : Nat) (x : List Int) : Prop where
  kind : x = storedB b ∨ (1 ≤ level ∧ Pk x false (fixBits b)) ∨ (level = 2 ∧ ∃ L D O, GoodC (litsL (psOf b)) 15 L ∧ GoodC (distsL (psOf b)) 15 D ∧ GoodC (rowL (L ++ D)) 7 O ∧ Pk x false (dynS b L D O))
  le : x.length ≤ (storedB b).length
  lef : 1 ≤ level → x.length ≤ ((fixBits b).length + 7) / 8
  lev0 : level = 0 → x = storedB b
  det : Det b level x
theorem Str.uniq {b x y : List Int} {level : Nat} (hl : level ≤ 2) (h : Str b level x) (k : Str b level y) : x = y := by
  rcases (by omega : level = 0 ∨ level = 1 ∨ level = 2) with e | e | e
  · rw [h.lev0 e, k.lev0 e]
  · exact (h.det.d1 e).uniq (k.det.d1 e)
  · by_cases c : lY b < (if lF b < (storedB b).length then lF b else (storedB b).length)
    · exact ((h.det.d2 e).1 c).uniq ((k.det.d2 e).1 c)
    · exact ((h.det.d2 e).2 c).uniq ((k.det.d2 e).2 c)
def RawPost (w : World) (b : List Int) (level : Nat) (e : Ending) (w' : World) : Prop :=
  ∃ A c x, e = .returned (.tuple #[.slice A x.length c, .int .i64 0]) ∧ w'.ownsRow w.heap.size 5 1 (.slice A x.length c) x.length (x.map (.int .u8)) ∧ Below w.heap.size w w' ∧ Str b level x
theorem raw_bad {A : Option Addr} {n c : Nat} {level : Int} (w : World) (h : level < 0 ∨ 2 < level) :
    Calls Tryz.prog 7 #[.slice A n c, .int .i64 level] w fun e w' => e = .returned (.tuple #[.slice none 0 0, .int .i64 2]) ∧ w = w' := by
  rcases h with h | h
  · have d1 : decide (level < 0) = true := decide_eq_true h
    go_enter Tryz.func7, Tryz.ntmps7
    go_wp2
    go_ret2
    exact ⟨rfl, rfl⟩
  · have d1 : decide (level < 0) = false := decide_eq_false (by omega)
    have d2 : decide ((2 : Int) < level) = true := decide_eq_true h
    go_enter Tryz.func7, Tryz.ntmps7
    go_wp2
    go_ret2
    exact ⟨rfl, rfl⟩
theorem goodPs_of : ∀ (ps : List Pc) (o : List Int), OkPs o ps → GoodPs ps := by
  intro ps
  induction ps with
  | nil => intro o _ p hp; cases hp
  | cons q ps ih =>
    intro o h p hp
    rcases List.mem_cons.1 hp with rfl | hp
    · rcases h.1 with h1 | ⟨h1, h2, h3, h4, -⟩
      · exact .inl h1
      · exact .inr ⟨h1, h2, h3, h4⟩
    · exact ih _ h.2 p hp
theorem good_ps {b : List Int} (hwf : ∀ x ∈ b, 0 ≤ x ∧ x < 256) : GoodPs (psOf b) := goodPs_of _ _ (pieces_ok hwf b.length 0 (by omega) (by omega)).1
theorem own_base {w : World} {base base' e sz n : Nat} {v : Value} {xs : List Value} (h : w.ownsRow base e sz v n xs) (hb : base' ≤ base) : w.ownsRow base' e sz v n xs := by
  refine ⟨h.1, ?_⟩
  rcases h.2 with hv | ⟨g, cap, cur, hv, h1, h2⟩
  · exact .inl hv
  · exact .inr ⟨g, cap, cur, hv, Nat.le_trans hb h1, h2⟩
theorem own_below {w w' : World} {base e sz n : Nat} {v : Value} {xs : List Value} (h : w.ownsRow base e sz v n xs) (hb : Below w.heap.size w w') : w'.ownsRow base e sz v n xs := own_frame h (fun g hg => hb.block g (h.lt g hg).2)
set_option maxRecDepth 20000 in
set_option maxHeartbeats 4000000 in
theorem raw_0 {A : Option Addr} {n c : Nat} {b : List Int} (w : World) (HA : SI w .u8 A n b) (hc : n ≤ c) (hn : n ≤ 2000000) (hwf : ∀ x ∈ b, 0 ≤ x ∧ x < 256) :
    Calls Tryz.prog 7 #[.slice A n c, .int .i64 0] w (RawPost w b 0) := by
  have HAA := Lib.hid HA
  have HWF := Lib.hid hwf
  clear HA hwf
  go_enter Tryz.func7, Tryz.ntmps7
  go_wp2_with fail
  refine (stored_any w HAA.out hc hn HWF.out).mono ?_
  rintro e w1 ⟨A1, c1, rfl, ho, hb⟩
  have HO := Lib.hid ho
  have HB := Lib.hid hb
  clear ho hb
  go_wp2
  go_ret2
  exact ⟨A1, c1, _, rfl, HO.out, HB.out, .inl rfl, Nat.le_refl _, fun h => by omega, fun _ => rfl, ⟨fun h => by omega, fun h => by omega⟩⟩
/-- a writer's bytes -/
theorem bytes_ps {q base : Nat} {A : Option Addr} {bs : List Int} (w0 w : World) (HP : Ps w0 w q base A bs false) :
    Calls Tryz.prog 20 #[.pointer (some ⟨q, 0, none⟩)] w fun e w' => ∃ B A' c', e = .returned (.slice A' B.length c') ∧ w'.ownsRow w.heap.size 5 1 (.slice A' B.length c') B.length (B.map (.int .u8)) ∧ Below w.heap.size w w' ∧ Pk B false bs := by
  obtain ⟨⟨A1, c1, B, hW, -⟩, -⟩ := HP
  refine (wbytes_any w hW).mono ?_
  rintro e w' ⟨A', c', rfl, h1, h2⟩
  exact ⟨B, A', c', rfl, h1, h2, hW.pk⟩
theorem fix_oks : checkedOf fixL = 0 ∧ checkedOf fixD = 0 := ⟨fixL_ok, fixD_ok⟩
theorem psOf_len (b : List Int) : (psOf b).length ≤ b.length := by
  have h : ∀ f i, i ≤ b.length → (piecesM b f i).length ≤ b.length - i := by
    intro f
    induction f with
    | zero => intro i _; simp [piecesM]
    | succ f ih =>
      intro i hi
      rw [piecesM]
      by_cases h1 : i < b.length
      · rw [if_pos h1, List.length_cons]
        have hs := step_pos b i
        by_cases h2 : i + (if (best b i).1 < 3 then 1 else (best b i).1) ≤ b.length
        · have := ih _ h2; omega
        · have : piecesM b f (i + if (best b i).1 < 3 then 1 else (best b i).1) = [] := by
            cases f with
            | zero => rfl
            | succ f => rw [piecesM, if_neg (by omega)]
          rw [this]; simp; omega
      · rw [if_neg h1]; simp
  exact h _ _ (by omega)
set_option maxRecDepth 20000 in
set_option maxHeartbeats 8000000 in
theorem raw_12 {A : Option Addr} {n c level : Nat} {b : List Int} (w : World) (HA : SI w .u8 A n b) (hc : n ≤ c) (hn : n ≤ 2000000) (hwf : ∀ x ∈ b, 0 ≤ x ∧ x < 256) (l1 : 1 ≤ level) (l2 : level ≤ 2) :
    Calls Tryz.prog 7 #[.slice A n c, .int .i64 level] w (RawPost w b level) := by
  have hlen := HA.len
  have HAA := Lib.hid HA
  have HWF := Lib.hid hwf
  have HGP := Lib.hid (good_ps hwf)
  have hpl := psOf_len b
  clear HA hwf
  have d1 : decide ((level : Int) < 0) = false := decide_eq_false (by omega)
  have d2 : decide ((2 : Int) < (level : Int)) = false := decide_eq_false (by omega)
  have d3 : ((level : Int) == 0) = false := by simp; omega
  go_enter Tryz.func7, Tryz.ntmps7
  go_wp2_with fail
  refine (stored_any w HAA.out hc hn HWF.out).mono ?_
  rintro e w1 ⟨A1, c1, rfl, ho, hb⟩
  have HO1 := Lib.hid ho
  have HB1 := Lib.hid hb
  clear ho hb
  go_wp2_with fail
  refine (pieces_any w1 (HAA.out.below HB1.out (Nat.le_refl _)) hc hn HWF.out).mono ?_
  rintro e w2 ⟨AP, cp, rfl, hsp, hb2, hap⟩
  have HSP : Hid (SP w2 AP (psOf b).length (psOf b)) := hsp
  have HB2 := Lib.hid hb2
  have HAP := Lib.hid hap
  have hpeq : (piecesM b b.length 0).length = (psOf b).length := rfl
  rw [hpeq]
  clear hsp hb2 hap hpeq
  generalize hps : psOf b = ps at HSP HGP hpl ⊢
  have HPS := Lib.hid hps
  clear hps
  generalize hnp : ps.length = np at HSP hpl ⊢
  clear hnp
  go_wp2_with fail
  refine (newWriter_any w2 false).mono ?_
  rintro e w3 ⟨rfl, hw3, hb3⟩
  have HP3 : Hid (Ps w3 w3 w2.heap.size (w2.heap.size + 1) none [] false) := ⟨⟨none, 0, [], hw3, .inl rfl⟩, Chg.refl _ _⟩
  have HB3 := Lib.hid hb3
  have hz3 := hw3.hi
  clear hw3 hb3
  go_wp2_with fail
  refine (putPs (n := 3) w3 w3 HP3.out (by omega) (by omega) (by omega) (by simp)).mono ?_
  rintro e w4 ⟨rfl, hp4⟩
  have HP4 := Lib.hid hp4
  clear hp4
  go_wp2_with fail
  obtain ⟨⟨A5, c5, B5, hW4, ho5⟩, hC5⟩ := HP4.out
  refine (fixed_any w4).mono ?_
  rintro e w5 ⟨XL, cl, XD, cd, rfl, hF⟩
  have HF := Lib.hid hF
  have HW5 := Lib.hid (wt_below hW4 hF.bel)
  have HB24 := Lib.hid (HB3.out.trans ((hC5.below (B := w2.heap.size) (by omega) (fun i hi => by rcases hi with rfl | hi; exact Nat.le_refl _; simp [own, Value.ownBlock] at hi))))
  have HB25 := Lib.hid (HB24.out.trans (hF.bel.mono HB24.out.size))
  have oL : Off XL (WS w2.heap.size A5) := off_lo hW4 hF.lo
  have oD : Off XD (WS w2.heap.size A5) := off_lo hW4 hF.do_
  have oP : Off AP (WS w2.heap.size A5) := fun a e hs => by
    have := (HAP.out a e).2
    rcases hs with hs | hs
    · omega
    · rcases ho5 with h | h
      · rw [h] at hs; simp [own, Value.ownBlock] at hs
      · have := h _ hs; omega
  have HC5 : Hid (Chg w2 w5 (WS w2.heap.size A5)) := Chg.of_below HB25.out
  clear hW4 ho5 hC5 hF HP3
  go_wp2_with fail
  refine (body_any w5 HW5.out (HSP.out.below HB25.out (Nat.le_refl _)) HF.out.l HF.out.d oP oL oD fixL_ok fixD_ok (by omega) (by omega) HGP.out (by simp [putV_length]; omega)).mono ?_
  rintro e w6 ⟨rfl, hp6⟩
  have HP6 : Hid (Ps w5 w6 w2.heap.size (w2.heap.size + 1) A5 (fixBits b) false) := by
    show Ps _ _ _ _ _ _ _
    unfold fixBits
    rw [HPS.out]
    simpa using hp6
  have HB26 : Hid (Below w2.heap.size w2 w6) := HB25.out.trans (hp6.chg.below HB25.out.size (fun i hi => by
    rcases hi with rfl | hi
    · exact Nat.le_refl _
    · have := (HW5.out.own.lt i (by rw [own_eq]; exact hi)).1; omega))
  clear hp6 HP4
  go_wp2_with fail
  refine (bytes_ps w5 w6 HP6.out).mono ?_
  rintro e w7 ⟨x1, A7, c7, rfl, ho7, hb7, hpk7⟩
  have HB27 := Lib.hid (HB26.out.trans (hb7.mono HB26.out.size))
  have HB17 := Lib.hid (HB2.out.trans (HB27.out.mono HB2.out.size))
  have HB07 := Lib.hid (HB1.out.trans (HB17.out.mono HB1.out.size))
  have HO7 : Hid (w7.ownsRow w.heap.size 5 1 (.slice A7 x1.length c7) x1.length (x1.map (.int .u8))) := own_base ho7 (by have h1 := HB1.out.size; have h2 := HB2.out.size; have h3 := HB26.out.size; omega)
  have HO17 := Lib.hid (own_below HO1.out HB17.out)
  have HPK := Lib.hid hpk7
  clear ho7 hb7 hpk7
  go_upto_if 45 with (fail)
  go_cut [6] (fun sb wx => ∃ A c x, sb = .slice A x.length c ∧ wx.ownsRow w.heap.size 5 1 (.slice A x.length c) x.length (x.map (.int .u8)) ∧ Str b 1 x ∧ w7 = wx)
  case first =>
    by_cases hlt : x1.length < (storedB b).length
    · have dd : decide ((x1.length : Int) < ((storedB b).length : Int)) = true := decide_eq_true (by omega)
      have HS : Hid (Str b 1 x1) := ⟨.inr (.inl ⟨Nat.le_refl _, HPK.out⟩), by omega, fun _ => by rw [HPK.out.len]; exact Nat.le_refl _, fun h => by omega, ⟨fun _ => ⟨fun _ => HPK.out, fun q => absurd (by unfold lF; rw [← HPK.out.len]; omega) q⟩, fun h => by omega⟩⟩
      go_wp2
      go_meet
      case rel => exact ⟨_, _, x1, rfl, HO7.out, HS.out, rfl⟩
    · have dd : decide ((x1.length : Int) < ((storedB b).length : Int)) = false := decide_eq_false (by omega)
      have HS : Hid (Str b 1 (storedB b)) := ⟨.inl rfl, Nat.le_refl _, fun _ => by rw [← HPK.out.len]; omega, fun _ => rfl, ⟨fun _ => ⟨fun q => absurd (by unfold lF at q; rw [← HPK.out.len] at q; omega) hlt, fun _ => rfl⟩, fun h => by omega⟩⟩
      go_wp2
      go_meet
      case rel => exact ⟨_, _, _, rfl, HO17.out, HS.out, rfl⟩
  case rest =>
    obtain ⟨A8, c8, x8, rfl, ho8, hs8, rfl⟩ := hcut
    have HO8 := Lib.hid ho8
    have HS8 := Lib.hid hs8
    clear ho8 hs8
    by_cases hl2 : level = 2
    · have dl : ((level : Int) == 2) = true := by simp; omega
      have hlp : Hid (∀ a, AP = some a → a.block < w7.heap.size) := fun a e => Nat.lt_of_lt_of_le (HAP.out a e).2 HB27.out.size
      go_wp2_with fail
      refine (newWriter_any w7 false).mono ?_
      rintro e w9 ⟨rfl, hw9, hb9⟩
      have HP9 : Hid (Ps w9 w9 w7.heap.size (w7.heap.size + 1) none [] false) := ⟨⟨none, 0, [], hw9, .inl rfl⟩, Chg.refl _ _⟩
      have HB9 := Lib.hid hb9
      have hz9 := hw9.hi
      clear hw9 hb9
      go_wp2_with fail
      refine (putPs (n := 3) w9 w9 HP9.out (by omega) (by omega) (by omega) (by simp)).mono ?_
      rintro e w10 ⟨rfl, hp10⟩
      obtain ⟨⟨A10, c10, B10, hW10, ho10⟩, hC10⟩ := hp10
      have HW10 := Lib.hid hW10
      have HB10 : Hid (Below w7.heap.size w7 w10) := HB9.out.trans (hC10.below (by omega) (fun i hi => by rcases hi with rfl | hi; exact Nat.le_refl _; simp [own, Value.ownBlock] at hi))
      have oP10 : Off AP (WS w7.heap.size A10) := fun a e hs => by
        have := hlp.out a e
        rcases hs with hs | hs
        · omega
        · rcases ho10 with h | h
          · rw [h] at hs; simp [own, Value.ownBlock] at hs
          · have := h _ hs; omega
      have HSP10 := Lib.hid ((HSP.out.below HB27.out (Nat.le_refl _)).below HB10.out (Nat.le_refl _))
      have HLP10 : Hid (∀ a, AP = some a → a.block < w10.heap.size) := fun a e => Nat.lt_of_lt_of_le (hlp.out a e) HB10.out.size
      clear hW10 ho10 hC10 HP9
      go_wp2_with fail
      refine (dynamic_any w10 HW10.out HSP10.out oP10 HLP10.out HGP.out (by simp [putV_length]; omega)).mono ?_
      rintro e w11 ⟨rfl, L, D, O, hdy⟩
      have HDY := Lib.hid hdy
      have HB11 : Hid (Below w7.heap.size w7 w11) := HB10.out.trans (hdy.ps.chg.below HB10.out.size (fun i hi => by
        rcases hi with rfl | hi
        · exact Nat.le_refl _
        · have := (HW10.out.own.lt i (by rw [own_eq]; exact hi)).1; omega))
      clear hdy
      go_wp2_with fail
      refine (bytes_ps w10 w11 HDY.out.ps).mono ?_
      rintro e w12 ⟨x2, A12, c12, rfl, ho12, hb12, hpk12⟩
      have HB12 := Lib.hid (HB11.out.trans (hb12.mono HB11.out.size))
      have HBF := Lib.hid (HB07.out.trans (HB12.out.mono HB07.out.size))
      have HO12 : Hid (w12.ownsRow w.heap.size 5 1 (.slice A12 x2.length c12) x2.length (x2.map (.int .u8))) := own_base ho12 (Nat.le_trans HB07.out.size HB11.out.size)
      have HO82 := Lib.hid (own_below HO8.out HB12.out)
      have HPK2 : Hid (Pk x2 false (dynS b L D O)) := by
        show Pk _ _ _
        unfold dynS
        rw [HPS.out]
        simpa using hpk12
      have HGL : Hid (GoodC (litsL (psOf b)) 15 L ∧ GoodC (distsL (psOf b)) 15 D ∧ GoodC (rowL (L ++ D)) 7 O) := by
        show _ ∧ _
        rw [HPS.out]
        exact ⟨HDY.out.l, HDY.out.d, HDY.out.o⟩
      have HDB : Hid (dynS b L D O = dynB b) := by
        show _ = _
        obtain ⟨g1, g2, g3⟩ := HGL.out
        unfold dynB
        rw [← g1.eq, ← g2.eq, ← g3.eq]
      have HLY : Hid (x2.length = lY b) := by
        show _ = _
        unfold lY
        rw [← HDB.out, HPK2.out.len]
      have HON := Lib.hid (HS8.out.det.d1 rfl)
      have HLN := Lib.hid HON.out.len
      clear ho12 hb12 hpk12
      by_cases hlt : x2.length < x8.length
      · have dd : decide ((x2.length : Int) < (x8.length : Int)) = true := decide_eq_true (by omega)
        have HS : Hid (Str b level x2) := ⟨.inr (.inr ⟨hl2, L, D, O, HGL.out.1, HGL.out.2.1, HGL.out.2.2, HPK2.out⟩), by have := HS8.out.le; omega, fun _ => by have := HS8.out.lef (by omega); omega, fun h => by omega, ⟨fun h => by omega, fun _ => ⟨fun _ => by rw [← HDB.out]; exact HPK2.out, fun q => absurd (by rw [← HLN.out, ← HLY.out]; exact hlt) q⟩⟩⟩
        go_wp2
        go_ret2
        exact ⟨_, _, x2, rfl, HO12.out, HBF.out, HS.out⟩
      · have dd : decide ((x2.length : Int) < (x8.length : Int)) = false := decide_eq_false (by omega)
        have HS : Hid (Str b level x8) := ⟨by
          rcases HS8.out.kind with h | ⟨h1, h2⟩ | ⟨h1, _⟩
          · exact .inl h
          · exact .inr (.inl ⟨l1, h2⟩)
          · omega, HS8.out.le, fun _ => HS8.out.lef (by omega), fun h => by omega, ⟨fun h => by omega, fun _ => ⟨fun q => absurd (by rw [← HLN.out, ← HLY.out] at q; exact q) hlt, fun _ => HON.out⟩⟩⟩
        go_wp2
        go_ret2
        exact ⟨_, _, x8, rfl, HO82.out, HBF.out, HS.out⟩
    · obtain rfl : level = 1 := by omega
      go_wp2
      go_ret2
      exact ⟨A8, c8, x8, rfl, HO8.out, HB07.out, HS8.out⟩
theorem raw_any {A : Option Addr} {n c level : Nat} {b : List Int} (w : World) (HA : SI w .u8 A n b) (hc : n ≤ c) (hn : n ≤ 2000000) (hwf : ∀ x ∈ b, 0 ≤ x ∧ x < 256) (l2 : level ≤ 2) :
    Calls Tryz.prog 7 #[.slice A n c, .int .i64 level] w (RawPost w b level) := by
  rcases Nat.eq_zero_or_pos level with h | h
  · subst h
    exact raw_0 w HA hc hn hwf
  · exact raw_12 w HA hc hn hwf h l2
end Go.Proofs.YtmgbjgjlddifaaaGreat.Def
set_option linter.unusedVariables false
set_option linter.unusedSimpArgs false
namespace Go.Proofs.YtmgbjgjlddifaaaGreat.Inf
open Go.RowKit K Bits Pfx Def Wrt Bak Ref RefR RefT RefX

theorem fixL_pos : ∀ s : Fin 288, fixL.getD s.val 0 ≠ 0 := by decide +kernel
theorem fixD_pos : ∀ s : Fin 30, fixD.getD s.val 0 ≠ 0 := by decide +kernel
theorem okp_use {o : List Int} {p : Pc} (h : OkP o p) : UseP fixL fixD p := by
  rcases h with ⟨h1, h2⟩ | ⟨h1, h2, h3, h4, -⟩
  · exact ⟨fun _ => fixL_pos ⟨p.b, by omega⟩, fun h => absurd h1 h⟩
  · have a := lengthM_bd h1 h2
    have b := distM_bd h3 h4
    exact ⟨fun h => by omega, fun _ => ⟨fixL_pos ⟨(lengthM p.n).1, by omega⟩, fixD_pos ⟨(distM p.back).1, by omega⟩⟩⟩
theorem okps_use : ∀ (ps : List Pc) (o : List Int), OkPs o ps → ∀ p ∈ ps, UseP fixL fixD p
  | [], _, _, p, hp => by cases hp
  | q :: ps, o, h, p, hp => by
    rcases List.mem_cons.1 hp with rfl | hp
    · exact okp_use h.1
    · exact okps_use ps _ h.2 p hp
theorem fix_use {o : List Int} {ps : List Pc} (h : OkPs o ps) : Use fixL fixD ps := ⟨okps_use ps o h, fixL_pos ⟨256, by decide⟩⟩
theorem psOf_ok {b : List Int} (hwf : ∀ x ∈ b, 0 ≤ x ∧ x < 256) : OkPs [] (psOf b) ∧ expand [] (psOf b) = b := pieces_ok hwf b.length 0 (by omega) (by omega)
theorem fix_read {b x : List Int} {m : Nat} (h : On x m (fixBits b)) : BitsAt x 0 (putV false 1 1) ∧ BitsAt x 1 (putV false 1 2) ∧ BitsAt x 3 (bodyBits fixL fixD (psOf b)) := by
  have hb := h.at0
  unfold fixBits at hb
  have e : putV false 3 3 = putV false 1 1 ++ putV false 1 2 := by decide
  have h2 := hb.right
  rw [putV_length] at h2
  have h1 := hb.left
  rw [e] at h1
  have h3 := h1.right
  rw [putV_length] at h3
  exact ⟨h1.left, by simpa using h3, by simpa using h2⟩
end Go.Proofs.YtmgbjgjlddifaaaGreat.Inf
